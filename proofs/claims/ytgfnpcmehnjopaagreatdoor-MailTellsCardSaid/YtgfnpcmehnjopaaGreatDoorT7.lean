/- Parts of the proofs, joined: VsL, VsO, VsW. -/
import Derived.Test.YtgfnpcmehnjopaaGreatDoorT1
import Derived.Test.YtgfnpcmehnjopaaGreatDoorT6
import Derived.OpenShut
section
namespace Go.Proofs.YtgfnpcmehnjopaaGreatDoor
section
section
open Go Go.RowKit
set_option linter.unusedVariables false
set_option linter.unusedSimpArgs false
variable {F : Fr} {P : Program} {K : Nat → Obj → Prop}
structure Rc where
  v : V
  rd : List Nat
  wr : List (Nat × Ho)
def wrs (h : List Ho) : List (Nat × Ho) → List Ho
  | [] => h
  | (i, o) :: r => wrs (h.set i o) r
def wAt (i : Nat) : List (Nat × Ho) → Option Ho
  | [] => none
  | (j, o) :: r => match wAt i r with
    | some x => some x
    | none => if j = i then some o else none
theorem wrs_get (i : Nat) : ∀ (r : List (Nat × Ho)) (h : List Ho), (wrs h r)[i]? = (h[i]?).map fun y => (wAt i r).getD y
  | [], h => by simp [wrs, wAt]
  | (j, o) :: r, h => by
    rw [wrs, wrs_get i r, wAt]
    cases wAt i r with
    | some x =>
      simp only [Option.getD_some]
      rw [List.getElem?_set]
      by_cases e : j = i
      · subst e
        by_cases hl : j < h.length
        · rw [if_pos rfl, if_pos hl, List.getElem?_eq_getElem hl]; rfl
        · rw [if_pos rfl, if_neg hl, List.getElem?_eq_none (by omega)]
      · rw [if_neg e]
    | none =>
      simp only [Option.getD_none, Option.map_id']
      rw [List.getElem?_set]
      by_cases e : j = i
      · subst e
        by_cases hl : j < h.length
        · rw [if_pos rfl, if_pos hl, List.getElem?_eq_getElem hl]; simp
        · rw [if_pos rfl, if_neg hl, List.getElem?_eq_none (by omega)]; rfl
      · rw [if_neg e, if_neg e]; simp
theorem wAt_mem {i : Nat} : ∀ {r : List (Nat × Ho)}, i ∉ r.map (·.1) → wAt i r = none
  | [], _ => rfl
  | (j, o) :: r, h => by
    simp only [List.map_cons, List.mem_cons, not_or] at h
    rw [wAt, wAt_mem h.2]
    simp only []
    rw [if_neg (fun e => h.1 e.symm)]
def SF (P : Program) (K : Nat → Obj → Prop) (ops : Array Oper) (o : Oper) (tm : List V) (h : List Ho) (rc : Rc) : Prop :=
  ∀ (F : Fr) (φ : List Pl) (w : World) (a : Act) (tm' : List V) (h' : List Ho), F.known = K → Inv F φ w h' → RelT F φ w a.tmps tm' →
    (∀ t ∈ o.looksAt ops, tm'[t]? = tm[t]?) → (∀ i ∈ rc.rd, h'[i]? = h[i]?) → (∃ s : Nat, h'[s]? = some .yet) →
    (Region.wanted o (yielded ops a.tmps) = true ∧ Gd P F φ w rc.v (wrs h' rc.wr) ((execOp a.eval o).run P w)) ∨ (Region.wanted o (yielded ops a.tmps) = false ∧ rc.v = .undef ∧ rc.wr = [])
inductive Ch (P : Program) (K : Nat → Obj → Prop) (ops : Array Oper) : List Oper → List V → List Ho → List Rc → List V → List Ho → Prop
  | nil {tm : List V} {h : List Ho} : Ch P K ops [] tm h [] tm h
  | cons {o : Oper} {l : List Oper} {tm tm' : List V} {h h' : List Ho} {rc : Rc} {rs : List Rc} (hs : SF P K ops o tm h rc) (hw : ∀ i ∈ rc.wr.map (·.1), i ∈ rc.rd) (hc : Ch P K ops l (putV tm o.dst rc.v) (wrs h rc.wr) rs tm' h') :
      Ch P K ops (o :: l) tm h (rc :: rs) tm' h'
def tmS (ops : Array Oper) (rs : List Rc) (tm0 : List V) (sel : Nat → Bool) : Nat → List V
  | 0 => tm0
  | n + 1 => match sel n, ops[n]?, rs[n]? with
    | true, some o, some rc => putV (tmS ops rs tm0 sel n) o.dst rc.v
    | _, _, _ => tmS ops rs tm0 sel n
def hS (rs : List Rc) (h0 : List Ho) (sel : Nat → Bool) : Nat → List Ho
  | 0 => h0
  | n + 1 => match sel n, rs[n]? with
    | true, some rc => wrs (hS rs h0 sel n) rc.wr
    | _, _ => hS rs h0 sel n
def wT (ops : Array Oper) (rs : List Rc) (n t : Nat) : Option V := match ops[n]?, rs[n]? with
  | some o, some rc => if o.dst = some t then some rc.v else none
  | _, _ => none
def wH (rs : List Rc) (n i : Nat) : Option Ho := (rs[n]?).bind fun rc => wAt i rc.wr
def look {α : Type} (wf : Nat → Option α) (sel : Nat → Bool) : Nat → Option α
  | 0 => none
  | n + 1 => match sel n, wf n with
    | true, some x => some x
    | _, _ => look wf sel n
theorem look_congr {α : Type} {wf : Nat → Option α} {s s' : Nat → Bool} : ∀ n, (∀ i, i < n → wf i ≠ none → s i = s' i) → look wf s n = look wf s' n
  | 0, _ => rfl
  | n + 1, h => by
    have ih := look_congr (wf := wf) (s := s) (s' := s') n fun i hi => h i (by omega)
    unfold look
    cases hw : wf n with
    | none => cases s n <;> cases s' n <;> exact ih
    | some x =>
      have := h n (by omega) (by rw [hw]; simp)
      rw [this, ih]
theorem look_cut {α : Type} {wf : Nat → Option α} {k : Nat} : ∀ n, k ≤ n → look wf (fun i => decide (i < k)) n = look wf (fun _ => true) k
  | 0, h => by obtain rfl : k = 0 := by omega
               rfl
  | n + 1, h => by
    by_cases e : k = n + 1
    · subst e
      exact look_congr _ fun i hi _ => by simp [hi]
    · have ih := look_cut (wf := wf) (k := k) n (by omega)
      have : decide (n < k) = false := by simp; omega
      rw [show look wf (fun i => decide (i < k)) (n + 1) = look wf (fun i => decide (i < k)) n from by simp only [look, this]]
      exact ih
theorem look_more {α : Type} {wf : Nat → Option α} {s : Nat → Bool} {k : Nat} (hs : s k = false) : ∀ n, k < n → (∀ j, j < n → k < j → s j = true → wf k ≠ none → wf j = none) →
    look wf (fun i => if i = k then true else s i) n = match wf k with
      | some x => some x
      | none => look wf s n
  | 0, h, _ => absurd h (by omega)
  | n + 1, h, hlater => by
    by_cases e : k = n
    · subst e
      have hc : look wf (fun i => if i = k then true else s i) k = look wf s k := look_congr _ fun i hi _ => if_neg (by omega)
      unfold look
      simp only [if_true]
      cases hw : wf k with
      | some x => rfl
      | none =>
        simp only []
        rw [hc, hs]
    · have ih := look_more (wf := wf) hs n (by omega) fun j hj => hlater j (by omega)
      unfold look
      simp only [if_neg (fun h => e h.symm : ¬ n = k)]
      cases hsn : s n with
      | false => exact ih
      | true =>
        cases hwn : wf n with
        | none => exact ih
        | some y =>
          simp only []
          cases hwk : wf k with
          | none => rfl
          | some x =>
            have := hlater n (by omega) (by omega) hsn (by rw [hwk]; simp)
            rw [hwn] at this; cases this
theorem tmS_get (ops : Array Oper) (rs : List Rc) (tm0 : List V) (sel : Nat → Bool) (t : Nat) : ∀ n, (tmS ops rs tm0 sel n)[t]? = (tm0[t]?).map fun y => (look (fun n => wT ops rs n t) sel n).getD y
  | 0 => by simp [tmS, look]
  | n + 1 => by
    have ih := tmS_get ops rs tm0 sel t n
    unfold tmS look wT
    cases hs : sel n with
    | false => exact ih
    | true =>
      cases ho : ops[n]? with
      | none => exact ih
      | some o =>
        cases hr : rs[n]? with
        | none => exact ih
        | some rc =>
          simp only []
          by_cases hd : o.dst = some t
          · rw [if_pos hd, hd]
            simp only [putV]
            rw [List.getElem?_set]
            simp only [if_true, Option.getD_some]
            cases h0 : tm0[t]? with
            | none =>
              rw [h0] at ih
              simp only [Option.map_none] at ih ⊢
              rw [if_neg]
              intro hl
              rw [List.getElem?_eq_getElem hl] at ih; cases ih
            | some y =>
              rw [h0] at ih
              simp only [Option.map_some] at ih ⊢
              rw [if_pos (get_lt ih)]
          · rw [if_neg hd]
            simp only []
            cases hdd : o.dst with
            | none => exact ih
            | some d =>
              simp only [putV]
              rw [List.getElem?_set_ne (fun e => hd (by rw [hdd, e]))]
              exact ih
theorem hS_get (rs : List Rc) (h0 : List Ho) (sel : Nat → Bool) (i : Nat) : ∀ n, (hS rs h0 sel n)[i]? = (h0[i]?).map fun y => (look (fun n => wH rs n i) sel n).getD y
  | 0 => by simp [hS, look]
  | n + 1 => by
    have ih := hS_get rs h0 sel i n
    unfold hS look wH
    cases hs : sel n with
    | false => exact ih
    | true =>
      cases hr : rs[n]? with
      | none => exact ih
      | some rc =>
        simp only [Option.bind_some]
        rw [wrs_get, ih]
        cases hw : wAt i rc.wr with
        | none => cases h0[i]? <;> rfl
        | some x => cases h0[i]? <;> rfl
theorem Ch.at {ops : Array Oper} {l : List Oper} {tm tm' : List V} {h h' : List Ho} {rs : List Rc} (hc : Ch P K ops l tm h rs tm' h') {tm0 : List V} {h0 : List Ho} : ∀ {k : Nat} {rp : List Rc}, rp.length = k → (∀ j, l[j]? = ops[k + j]?) →
    tm = tmS ops (rp ++ rs) tm0 (fun _ => true) k → h = hS (rp ++ rs) h0 (fun _ => true) k →
    rs.length = l.length ∧ tm' = tmS ops (rp ++ rs) tm0 (fun _ => true) (k + l.length) ∧ h' = hS (rp ++ rs) h0 (fun _ => true) (k + l.length) ∧
    ∀ (i : Nat) (o : Oper) (rc : Rc), k ≤ i → ops[i]? = some o → (rp ++ rs)[i]? = some rc → SF P K ops o (tmS ops (rp ++ rs) tm0 (fun _ => true) i) (hS (rp ++ rs) h0 (fun _ => true) i) rc ∧ ∀ x ∈ rc.wr.map (·.1), x ∈ rc.rd := by
  induction hc with
  | nil =>
    intro k rp hk hl e1 e2
    refine ⟨rfl, by simpa using e1, by simpa using e2, fun i o rc hi ho hr => ?_⟩
    rw [List.append_nil, List.getElem?_eq_none (by omega)] at hr; cases hr
  | @cons o l tm tm' h h' rc rs hs hw hc ih =>
    intro k rp hk hl e1 e2
    have h0' : ops[k]? = some o := by simpa using (hl 0).symm
    have hr : (rp ++ rc :: rs)[k]? = some rc := by rw [List.getElem?_append_right (by omega), hk]; simp
    have eapp : rp ++ rc :: rs = (rp ++ [rc]) ++ rs := by simp
    have t1 : putV tm o.dst rc.v = tmS ops (rp ++ rc :: rs) tm0 (fun _ => true) (k + 1) := by simp only [tmS, h0', hr, e1]
    have t2 : wrs h rc.wr = hS (rp ++ rc :: rs) h0 (fun _ => true) (k + 1) := by simp only [hS, hr, e2]
    rw [eapp] at t1 t2
    obtain ⟨a, b, c, d⟩ := ih (k := k + 1) (rp := rp ++ [rc]) (by simp [hk]) (fun j => by have := hl (j + 1); simpa [Nat.add_assoc, Nat.add_comm 1 j] using this) t1 t2
    rw [← eapp] at b c d
    have e : k + (o :: l).length = k + 1 + l.length := by simp; omega
    refine ⟨by simp [a], by rw [e]; exact b, by rw [e]; exact c, fun i o' rc' hi ho hr' => ?_⟩
    by_cases hik : i = k
    · subst hik
      rw [h0'] at ho; cases ho
      rw [hr] at hr'; cases hr'
      rw [← e1, ← e2]; exact ⟨hs, hw⟩
    · exact d i o' rc' (by omega) ho hr'
def befs (ops : List Oper) : List Oper → List Nat → List Nat
  | [], acc => acc
  | o :: l, acc => befs ops l (acc ++ [o.after.toList.foldl (fun s e => if Region.binds .any e then s ||| 2 ^ e.on ||| acc.getD e.on 0 else s) 0])
theorem befs_fold {ops : Array Oper} {acc : List Nat} {k : Nat} {o : Oper} (ho : ops[k]? = some o) (ih : ∀ m, m < acc.length → ∀ j, (acc.getD m 0).testBit j = true → Anc ops m j) :
    ∀ (es : List Edge) (s : Nat), (∀ e ∈ es, e ∈ o.after) → (∀ j, s.testBit j = true → Anc ops k j) → ∀ j, (es.foldl (fun s e => if Region.binds .any e then s ||| 2 ^ e.on ||| acc.getD e.on 0 else s) s).testBit j = true → Anc ops k j
  | [], s, _, hs, j, h => hs j h
  | e :: es, s, hm, hs, j, h => by
    simp only [List.foldl_cons] at h
    refine befs_fold ho ih es _ (fun x hx => hm x (List.mem_cons_of_mem _ hx)) (fun j hj => ?_) j h
    split at hj
    · rename_i hb
      have hd : dep o e.on = true := by
        unfold dep
        refine List.any_eq_true.2 ⟨e, Array.mem_toList_iff.2 (hm e (List.mem_cons_self ..)), ?_⟩
        simp [hb]
      simp only [Nat.testBit_or, Bool.or_eq_true] at hj
      rcases hj with (hj | hj) | hj
      · exact hs j hj
      · have : e.on = j := by
          by_cases e1 : e.on = j
          · exact e1
          · rw [Nat.testBit_two_pow_of_ne e1] at hj; cases hj
        subst this; exact .one ho hd
      · by_cases hlt : e.on < acc.length
        · exact .more ho hd (ih _ hlt j hj)
        · rw [List.getD_eq_getElem?_getD, List.getElem?_eq_none (by omega)] at hj; simp at hj
    · exact hs j hj
theorem befs_spec {ops : Array Oper} : ∀ (l : List Oper) (acc : List Nat) (k : Nat), acc.length = k → (∀ j, l[j]? = ops[k + j]?) → (∀ m, m < acc.length → ∀ j, (acc.getD m 0).testBit j = true → Anc ops m j) →
    ∀ m, m < (befs ops.toList l acc).length → ∀ j, ((befs ops.toList l acc).getD m 0).testBit j = true → Anc ops m j
  | [], acc, k, hk, hl, ih => ih
  | o :: l, acc, k, hk, hl, ih => by
    have h0 : ops[k]? = some o := by simpa using (hl 0).symm
    refine befs_spec l _ (k + 1) (by simp [hk]) (fun j => by have := hl (j + 1); simpa [Nat.add_assoc, Nat.add_comm 1 j] using this) fun m hm j hj => ?_
    by_cases e : m < acc.length
    · refine ih m e j ?_
      rw [List.getD_eq_getElem?_getD, List.getElem?_append_left e] at hj
      rw [List.getD_eq_getElem?_getD]; exact hj
    · have : m = k := by simp at hm; omega
      subst this
      rw [List.getD_eq_getElem?_getD, List.getElem?_append_right (by omega)] at hj
      simp only [hk, Nat.sub_self, List.getElem?_cons_zero, Option.getD_some] at hj
      exact befs_fold h0 ih _ 0 (fun e he => Array.mem_toList_iff.1 he) (fun j h => by simp at h) j hj
def clash (a b : List Nat × List Nat) : Bool := a.2.any (fun i => b.1.contains i) || b.2.any (fun i => a.1.contains i)
def okOrd (ops : Array Oper) (ids : List (List Nat × List Nat)) : Bool :=
  let bf := befs ops.toList ops.toList []
  (List.range ids.length).all fun k => (List.range k).all fun j => !clash (ids.getD j ([], [])) (ids.getD k ([], [])) || (bf.getD k 0).testBit j
theorem okOrd_spec {ops : Array Oper} {ids : List (List Nat × List Nat)} (h : okOrd ops ids = true) (hl : ids.length = ops.size) {j k : Nat} (hjk : j < k) {a b : List Nat × List Nat} (ha : ids[j]? = some a) (hb : ids[k]? = some b) (hc : clash a b = true) : Anc ops k j := by
  unfold okOrd at h
  have hk := get_lt hb
  have h1 := List.all_eq_true.1 (List.all_eq_true.1 h k (List.mem_range.2 hk)) j (List.mem_range.2 hjk)
  rw [List.getD_eq_getElem?_getD, List.getD_eq_getElem?_getD, ha, hb] at h1
  simp only [Option.getD_some, hc, Bool.not_true, Bool.false_or] at h1
  refine befs_spec ops.toList [] 0 rfl (fun i => by simp) (fun m hm => by simp at hm) k ?_ j h1
  rcases Nat.lt_or_ge k (befs ops.toList ops.toList []).length with h2 | h2
  · exact h2
  · rw [List.getD_eq_getElem?_getD, List.getElem?_eq_none h2] at h1; simp at h1
structure MidV (F : Fr) (ops : Array Oper) (rs : List Rc) (φ0 : List Pl) (w0 : World) (tm0 : List V) (h0 : List Ho) (listed : Array Bool) (a : Act) (w : World) : Prop where
  size : listed.size = ops.size
  shut : ∀ j o, ops[j]? = some o → listed.getD j false = true → ∀ e ∈ o.after, Region.binds .any e = true → listed.getD e.on false = true
  defers : a.defers = []
  rel : ∃ φ, Ext φ0 w0 φ w ∧ Inv F φ w (hS rs h0 (fun j => listed.getD j false) ops.size) ∧ RelT F φ w a.tmps (tmS ops rs tm0 (fun j => listed.getD j false) ops.size)
theorem draw_any {ops : Array Oper} {rs : List Rc} {tm0 : List V} {h0 : List Ho} {Q : Exit → Act → World → Prop} (F : Fr) (φ0 : List Pl) (w0 : World) (h00 : List Ho) (hK : F.known = K) (hi0 : Inv F φ0 w0 h00)
    (hok : Okay ops) (hrs : rs.length = ops.size)
    (hsf : ∀ (i : Nat) (o : Oper) (rc : Rc), ops[i]? = some o → rs[i]? = some rc → SF P K ops o (tmS ops rs tm0 (fun _ => true) i) (hS rs h0 (fun _ => true) i) rc ∧ ∀ x ∈ rc.wr.map (·.1), x ∈ rc.rd)
    (hord : okOrd ops (rs.map fun rc => (rc.rd, rc.wr.map (·.1))) = true) (hys : ∃ s : Nat, h0[s]? = some .yet ∧ ∀ rc ∈ rs, s ∉ rc.wr.map (·.1))
    (hend : ∀ a w, RelA F φ0 w0 ⟨tmS ops rs tm0 (fun _ => true) ops.size, hS rs h0 (fun _ => true) ops.size⟩ a w → Q .normal a w) :
    ∀ (fuel : Nat) (listed : Array Bool) (a : Act) (w : World), left ops.size listed ≤ fuel → MidV F ops rs φ0 w0 tm0 h0 listed a w → wpAny P .any ops Q fuel listed a w := by
  have anc : ∀ (j k : Nat) (x y : Rc), j < k → rs[j]? = some x → rs[k]? = some y → ∀ i, (i ∈ x.wr.map (·.1) ∧ i ∈ y.rd) ∨ (i ∈ y.wr.map (·.1) ∧ i ∈ x.rd) → Anc ops k j := fun j k x y hjk hx hy i hi => by
    refine okOrd_spec hord (by simp [hrs]) hjk (by rw [List.getElem?_map, hx]; rfl) (by rw [List.getElem?_map, hy]; rfl) ?_
    unfold clash
    rw [Bool.or_eq_true]
    rcases hi with ⟨h1, h2⟩ | ⟨h1, h2⟩
    · exact .inl (List.any_eq_true.2 ⟨i, h1, by simpa using h2⟩)
    · exact .inr (List.any_eq_true.2 ⟨i, h1, by simpa using h2⟩)
  have fin : ∀ (listed : Array Bool) (a : Act) (w : World), (∀ j, j < ops.size → listed.getD j false = true) → MidV F ops rs φ0 w0 tm0 h0 listed a w → Q .normal a w := by
    intro listed a w hall h
    obtain ⟨φ, he, hi, ht⟩ := h.rel
    have e1 : tmS ops rs tm0 (fun j => listed.getD j false) ops.size = tmS ops rs tm0 (fun _ => true) ops.size := List.ext_getElem? fun t => by
      rw [tmS_get, tmS_get, look_congr _ fun i hi _ => hall i hi]
    have e2 : hS rs h0 (fun j => listed.getD j false) ops.size = hS rs h0 (fun _ => true) ops.size := List.ext_getElem? fun t => by
      rw [hS_get, hS_get, look_congr _ fun i hi _ => hall i hi]
    rw [e1] at ht
    rw [e2] at hi
    exact hend a w ⟨φ, he, hi, ht, h.defers⟩
  have full : ∀ listed : Array Bool, listed.size = ops.size → Region.ready .any ops listed = [] → ∀ j, j < ops.size → listed.getD j false = true := by
    intro listed hs hr j
    induction j using Nat.strongRecOn with
    | ind j ih =>
      intro hj
      cases hl : listed.getD j false with
      | true => rfl
      | false =>
        exfalso
        have hoj : ops[j]? = some ops[j] := Array.getElem?_eq_getElem hj
        have hmem : j ∈ Region.ready .any ops listed := mem_ready.2 ⟨by
          have : j < listed.size := by omega
          simp [this] at hl ⊢
          exact hl, ops[j], hoj, fun e he hb => ih e.on (hok.back j _ hoj e he hb) (by have := hok.back j _ hoj e he hb; omega)⟩
        rw [hr] at hmem; cases hmem
  intro fuel
  induction fuel with
  | zero =>
    intro listed a w hf h
    have hall := left_zero (l := listed) (n := ops.size) (by omega)
    refine ⟨?_, fin listed a w hall h⟩
    apply List.eq_nil_iff_forall_not_mem.2
    intro j hj
    obtain ⟨h1, o, ho, _⟩ := mem_ready.1 hj
    have hlt := (Array.getElem?_eq_some_iff.1 ho).1
    have h2 := hall j hlt
    have : j < listed.size := by rw [h.size]; exact hlt
    simp [this] at h1 h2
    rw [h1] at h2; cases h2
  | succ fuel ih =>
    intro listed a w hf h
    refine ⟨fun hr => fin listed a w (full listed h.size hr) h, fun k hk => ?_⟩
    obtain ⟨h1, o, ho, hr⟩ := mem_ready.1 hk
    have hlt := (Array.getElem?_eq_some_iff.1 ho).1
    have hls : k < listed.size := by rw [h.size]; exact hlt
    have hun : listed.getD k false = false := by
      simp [hls] at h1 ⊢
      exact h1
    have hrk : rs[k]? = some (rs[k]'(by rw [hrs]; exact hlt)) := List.getElem?_eq_getElem _
    generalize rs[k]'(by rw [hrs]; exact hlt) = rc at hrk
    obtain ⟨φ, he, hi, ht⟩ := h.rel
    obtain ⟨hs, hwr⟩ := hsf k o rc ho hrk
    -- what k waits for has been carried out; what waits for k has not
    have up : ∀ j, Anc ops k j → listed.getD j false = true := fun j hj => by
      cases hj with
      | one ho' hd =>
        rw [ho] at ho'; cases ho'
        obtain ⟨e, he, hb, hon⟩ := dep_on hd
        rw [← hon]; exact hr e he hb
      | more ho' hd hrest =>
        rw [ho] at ho'; cases ho'
        obtain ⟨e, he, hb, hon⟩ := dep_on hd
        exact anc_listed h.shut hrest (by rw [← hon]; exact hr e he hb)
    have down : ∀ j, Anc ops j k → listed.getD j false = false := fun j hj => by
      cases hl : listed.getD j false with
      | false => rfl
      | true => have := anc_listed h.shut hj hl; rw [hun] at this; cases this
    have hT : ∀ t ∈ o.looksAt ops, (tmS ops rs tm0 (fun j => listed.getD j false) ops.size)[t]? = (tmS ops rs tm0 (fun _ => true) k)[t]? := fun t hm => by
      rw [tmS_get, tmS_get, ← look_cut (k := k) ops.size (by omega)]
      congr 2
      funext y
      congr 1
      refine look_congr _ fun j hj hw => ?_
      have hd : ∃ oj, ops[j]? = some oj ∧ oj.dst = some t := by
        unfold wT at hw
        split at hw
        · rename_i oj rj e1 e2
          by_cases e3 : oj.dst = some t
          · exact ⟨oj, e1, e3⟩
          · rw [if_neg e3] at hw; exact absurd rfl hw
        · exact absurd rfl hw
      obtain ⟨oj, hoj, hdj⟩ := hd
      rcases Nat.lt_trichotomy j k with hlt2 | heq | hgt
      · rw [decide_eq_true hlt2]
        exact up j (.one ho ((hok.look k j o oj t ho hoj (by omega) hdj hm).1 hlt2))
      · subst heq; simpa using hun
      · have e : decide (j < k) = false := by simp; omega
        rw [e]
        exact down j (.one hoj ((hok.look k j o oj t ho hoj (by omega) hdj hm).2 hgt))
    have wmem : ∀ (j i : Nat), wH rs j i ≠ none → ∃ x, rs[j]? = some x ∧ i ∈ x.wr.map (·.1) := fun j i hw => by
      unfold wH at hw
      cases hx : rs[j]? with
      | none => rw [hx] at hw; exact absurd rfl hw
      | some x =>
        refine ⟨x, rfl, ?_⟩
        rw [hx] at hw
        exact Classical.byContradiction fun hn => hw (wAt_mem hn)
    have hH : ∀ i ∈ rc.rd, (hS rs h0 (fun j => listed.getD j false) ops.size)[i]? = (hS rs h0 (fun _ => true) k)[i]? := fun i hm => by
      rw [hS_get, hS_get, ← look_cut (k := k) ops.size (by omega)]
      congr 2
      funext y
      congr 1
      refine look_congr _ fun j hj hw => ?_
      obtain ⟨x, hx, hxm⟩ := wmem j i hw
      rcases Nat.lt_trichotomy j k with hlt2 | heq | hgt
      · rw [decide_eq_true hlt2]
        exact up j (anc j k x rc hlt2 hx hrk i (.inl ⟨hxm, hm⟩))
      · subst heq; simpa using hun
      · have e : decide (j < k) = false := by simp; omega
        rw [e]
        exact down j (anc k j rc x hgt hrk hx i (.inr ⟨hxm, hm⟩))
    have hY : ∃ s : Nat, (hS rs h0 (fun j => listed.getD j false) ops.size)[s]? = some .yet := by
      obtain ⟨s, h1, h2⟩ := hys
      refine ⟨s, ?_⟩
      have hn : look (fun n => wH rs n s) (fun j => listed.getD j false) ops.size = none := by
        rw [look_congr (s' := fun _ => false) _ fun j hj hw => ?_]
        · generalize ops.size = m
          induction m with
          | zero => rfl
          | succ m ih => unfold look; exact ih
        · obtain ⟨x, hx, hxm⟩ := wmem j s hw
          exact absurd hxm (h2 x (List.mem_of_getElem? hx))
      rw [hS_get, h1, hn]; rfl
    -- the state with k
    have sel : (fun j => (listed.setIfInBounds k true).getD j false) = fun j => if j = k then true else listed.getD j false := funext fun j => by
      by_cases e : j = k
      · subst e; rw [if_pos rfl]; exact getD_set_same hls
      · rw [if_neg e]; exact getD_set_ne false (Ne.symm e)
    have tmk : ∀ (l : Array Bool) (v : V), v = rc.v → putV (tmS ops rs tm0 (fun j => listed.getD j false) ops.size) o.dst v = tmS ops rs tm0 (fun j => (listed.setIfInBounds k true).getD j false) ops.size := fun _ v hv => by
      subst hv
      rw [sel]
      refine List.ext_getElem? fun t => ?_
      rw [tmS_get, look_more (wf := fun n => wT ops rs n t) (s := fun j => listed.getD j false) hun ops.size hlt fun j hj hgt hl hw => ?_]
      · have hwk : wT ops rs k t = if o.dst = some t then some rc.v else none := by simp only [wT, ho, hrk]
        rw [hwk]
        by_cases hd : o.dst = some t
        · rw [if_pos hd, hd]
          simp only [putV, Option.getD_some]
          rw [List.getElem?_set, if_pos rfl]
          have := tmS_get ops rs tm0 (fun j => listed.getD j false) t ops.size
          cases h0' : tm0[t]? with
          | none =>
            rw [h0'] at this
            simp only [Option.map_none] at this ⊢
            rw [if_neg]
            intro hl
            rw [List.getElem?_eq_getElem hl] at this; cases this
          | some y =>
            rw [h0'] at this
            simp only [Option.map_some] at this ⊢
            rw [if_pos (get_lt this)]
        · rw [if_neg hd]
          simp only []
          rw [← tmS_get]
          cases hdd : o.dst with
          | none => rfl
          | some d =>
            simp only [putV]
            rw [List.getElem?_set_ne (fun e => hd (by rw [hdd, e]))]
      · -- no other operation writes the slot
        simp only [wT, ho, hrk] at hw
        have hd : o.dst = some t := by
          by_cases hd : o.dst = some t
          · exact hd
          · rw [if_neg hd] at hw; exact absurd rfl hw
        simp only [wT]
        cases hoj : ops[j]? with
        | none => rfl
        | some oj =>
          cases hrj : rs[j]? with
          | none => rfl
          | some rj =>
            simp only []
            rw [if_neg (hok.once j k oj o t hoj ho (by omega) hd)]
    have hk' : wrs (hS rs h0 (fun j => listed.getD j false) ops.size) rc.wr = hS rs h0 (fun j => (listed.setIfInBounds k true).getD j false) ops.size := by
      rw [sel]
      refine List.ext_getElem? fun i => ?_
      rw [hS_get, look_more (wf := fun n => wH rs n i) (s := fun j => listed.getD j false) hun ops.size hlt fun j hj hgt hl hw => ?_]
      · rw [wrs_get, hS_get]
        have hwk : wH rs k i = wAt i rc.wr := by simp only [wH, hrk, Option.bind_some]
        rw [hwk]
        cases wAt i rc.wr with
        | none => cases h0[i]? <;> rfl
        | some x => cases h0[i]? <;> rfl
      · exact Classical.byContradiction fun hne => by
          obtain ⟨x, hx, hxm⟩ := wmem j i hne
          obtain ⟨y, hy, hym⟩ := wmem k i hw
          rw [hrk] at hy; cases hy
          have := down j (anc k j rc x hgt hrk hx i (.inr ⟨hxm, hwr i hym⟩))
          rw [hl] at this; cases this
    have hshut : ∀ j oj, ops[j]? = some oj → (listed.setIfInBounds k true).getD j false = true → ∀ e ∈ oj.after, Region.binds .any e = true → (listed.setIfInBounds k true).getD e.on false = true := fun j oj hj hl e he hb => by
      have hmono : ∀ j, listed.getD j false = true → (listed.setIfInBounds k true).getD j false = true := fun j hj => by
        by_cases e : j = k
        · rw [e]; exact getD_set_same hls
        · rw [getD_set_ne false (Ne.symm e)]; exact hj
      by_cases e2 : j = k
      · subst e2
        rw [ho] at hj; cases hj
        exact hmono _ (hr e he hb)
      · rw [getD_set_ne false (Ne.symm e2)] at hl
        exact hmono _ (h.shut j oj hj hl e he hb)
    have hleft : left ops.size (listed.setIfInBounds k true) ≤ fuel := by have := left_set hls hun (n := ops.size) hlt; omega
    have go : ∀ {φ' : List Pl} {w' : World} {u : Value}, Ext φ w φ' w' → Inv F φ' w' (wrs (hS rs h0 (fun j => listed.getD j false) ops.size) rc.wr) → Den F φ' w' u rc.v →
        wpAny P .any ops Q fuel (listed.setIfInBounds k true) (a.put o.dst u) w' := fun he' hi' hd => by
      refine ih _ _ _ hleft ⟨by simp [h.size], hshut, by rw [put_defers]; exact h.defers, _, he.trans hi0 he', ?_, ?_⟩
      · rw [← hk']; exact hi'
      · rw [← tmk listed rc.v rfl]; exact (ht.ext he').put hd
    unfold wpOp
    rw [ho]
    simp only []
    rcases hs F φ w a _ _ hK hi ht hT hH hY with ⟨hw, hg⟩ | ⟨hw, hv, hwr0⟩
    · rw [if_pos hw]
      refine .inl ?_
      unfold Oper.wp
      cases hrun : (execOp a.eval o).run P w with
      | halt x w' => rw [hrun] at hg; exact hg.elim
      | ok n w' =>
        rw [hrun] at hg
        cases n <;> simp only [Gd] at hg
        · obtain ⟨φ', h1, h2, h3⟩ := hg
          exact go h1 h2 h3
        · obtain ⟨hv, φ', h1, h2⟩ := hg
          exact go h1 h2 (by rw [hv]; exact den_undef)
        · refine Calls.mono hg ?_
          rintro e w'' ⟨u, φ', rfl, h1, h2, h3⟩
          exact go h1 h2 h3
    · rw [if_neg (by rw [hw]; simp)]
      refine go (.refl φ w) ?_ (by rw [hv]; exact den_undef)
      rw [hwr0]; exact hi
end
section
open Go Go.RowKit
set_option linter.unusedVariables false
set_option linter.unusedSimpArgs false
variable {F : Fr} {P : Program} {K : Nat → Obj → Prop}
def gB (ρ : List Nat) (B i : Nat) : Nat := (ρ[i]?).getD (B + i)
theorem Den.reg {F : Fr} {φ : List Pl} {w : World} {g g' : Nat → Nat} (hg : ∀ i, lv φ (g i) → g' i = g i) {r : Value} {u : V} (hd : Den F φ w r u) : ∀ v, u = renV g v → Den F φ w r (renV g' v) := by
  induction hd with
  | d h => intro v e; cases v <;> simp only [renV, reduceCtorEq] at e <;> cases e; exact .d h
  | agg hs h1 _ ih =>
    intro v e; cases v <;> simp only [renV, reduceCtorEq] at e
    cases e
    refine .agg (by rw [hs, renL_len, renL_len]) h1 fun i r v hr hv => ?_
    rw [renL_get] at hv
    obtain ⟨x, hx, rfl⟩ := Option.map_eq_some_iff.1 hv
    exact ih i r _ hr (by rw [renL_get, hx]; rfl) x rfl
  | tup hs _ ih =>
    intro v e; cases v <;> simp only [renV, reduceCtorEq] at e
    cases e
    refine .tup (by rw [hs, renL_len, renL_len]) fun i r v hr hv => ?_
    rw [renL_get] at hv
    obtain ⟨x, hx, rfl⟩ := Option.map_eq_some_iff.1 hv
    exact ih i r _ hr (by rw [renL_get, hx]; rfl) x rfl
  | own ht h hn hpl hf ho =>
    intro v e; cases v <;> simp only [renV, reduceCtorEq] at e
    cases e
    rw [renV, hg _ ht]
    exact .own ht h hn hpl hf ho
  | ownEx ht hh h hn =>
    intro v e; cases v <;> simp only [renV, reduceCtorEq] at e
    cases e
    rw [renV, hg _ ht]
    exact .ownEx ht hh h hn
  | full h hn => intro v e; cases v <;> simp only [renV, reduceCtorEq] at e <;> cases e; exact .full h hn
  | ptr ho h =>
    intro v e; cases v <;> simp only [renV, reduceCtorEq] at e
    cases e
    rw [renV, hg _ ho]
    exact .ptr ho h
  | ep c ha hc hd => intro v e; cases v <;> simp only [renV, reduceCtorEq] at e <;> cases e; exact .ep c ha hc hd
  | hs ho h hcap hf =>
    intro v e; cases v <;> simp only [renV, reduceCtorEq] at e
    cases e
    rw [renV, hg _ ho]
    exact .hs ho h hcap hf
  | hsE ho ha hcap hsp =>
    intro v e; cases v <;> simp only [renV, reduceCtorEq] at e
    cases e
    rw [renV, hg _ ho]
    exact .hsE ho ha hcap hsp
  | hsN ho h =>
    intro v e; cases v <;> simp only [renV, reduceCtorEq] at e
    cases e
    rw [renV, hg _ ho]
    exact .hsN ho h
  | any => intro v e; cases v <;> simp only [renV, reduceCtorEq] at e; exact .any
  | ub => intro v e; cases v <;> simp only [renV, reduceCtorEq] at e; exact .ub
  | mp ho h =>
    intro v e; cases v <;> simp only [renV, reduceCtorEq] at e
    cases e
    rw [renV, hg _ ho]
    exact .mp ho h
  | fn hs _ ih =>
    intro v e; cases v <;> simp only [renV, reduceCtorEq] at e
    cases e
    refine .fn (by rw [hs, renL_len, renL_len]) fun i r v hr hv => ?_
    rw [renL_get] at hv
    obtain ⟨x, hx, rfl⟩ := Option.map_eq_some_iff.1 hv
    exact ih i r _ hr (by rw [renL_get, hx]; rfl) x rfl
  | fnb hs _ ih =>
    intro v e; cases v <;> simp only [renV, reduceCtorEq] at e
    cases e
    refine .fnb (by rw [hs, renL_len, renL_len]) fun i r v hr hv => ?_
    rw [renL_get] at hv
    obtain ⟨x, hx, rfl⟩ := Option.map_eq_some_iff.1 hv
    exact ih i r _ hr (by rw [renL_get, hx]; rfl) x rfl
theorem ObOk.reg {F : Fr} {φ : List Pl} {w : World} {g g' : Nat → Nat} (hg : ∀ i, lv φ (g i) → g' i = g i) {p : Pl} {o : Ho} (h : ObOk F φ w p (renO g o)) : ObOk F φ w p (renO g' o) := by
  cases p <;> cases o <;> first | exact h.elim | skip
  · obtain ⟨arr, a, z0, b, c⟩ := h
    refine ⟨arr, a, z0, by rw [renL_len] at b ⊢; exact b, fun j v hv => ?_⟩
    rw [renL_get] at hv
    obtain ⟨x, hx, rfl⟩ := Option.map_eq_some_iff.1 hv
    obtain ⟨u, h1, h2, h3⟩ := c j _ (by rw [renL_get, hx]; rfl)
    exact ⟨u, h1, h2, h3.reg hg x rfl⟩
  · obtain ⟨ents, clock, a, b, c⟩ := h
    refine ⟨ents, clock, a, by simpa [GM.mapV] using b, fun j m e hm he => ?_⟩
    simp only [GM.mapV, List.getElem?_map] at he
    obtain ⟨x, hx, rfl⟩ := Option.map_eq_some_iff.1 he
    obtain ⟨h1, h2⟩ := c j m ⟨x.born, x.key, renV g x.val⟩ hm (by simp only [GM.mapV, List.getElem?_map, hx]; rfl)
    exact ⟨h1, h2.reg hg x.val rfl⟩
  all_goals first
    | exact h
    | (rename_i cs; cases cs with
      | nil => rfl
      | cons a l => simp [ObOk, renO, renL] at h)
theorem Sp.frameR {f : FuncId} {vs vs' : List V} {h hl : List Ho} {R N : V → List Ho → Prop} (hs : Sp P K f vs' hl R) (ρ fr : List Nat) (hn : (ρ ++ fr).Nodup) (hlen : ρ.length = hl.length)
    (hyet : ∀ j ∈ fr, h[j]? = some .yet) (hcount : ∀ v hl', R v hl' → hl'.length = (ρ ++ fr).length)
    (hpick : ∀ (B i j : Nat) (o : Ho), ρ[i]? = some j → hl[i]? = some o → h[j]? = some (renO (gB (ρ ++ fr) B) o))
    (hb : ∀ j ∈ ρ, j < h.length)
    (hv : ∀ (B : Nat) (F : Fr) (φ : List Pl) (w : World) (rs : List Value), DenL F φ w rs vs → DenL F φ w rs (vs'.map (renV (gB (ρ ++ fr) B))))
    (hk : ∀ (v : V) (hl' : List Ho), R v hl' → N (renV (gB (ρ ++ fr) 0) v) (setAll h (ρ ++ fr) (hl'.map (renO (gB (ρ ++ fr) 0))))) : Sp P K f vs h N := by
  intro F φ w args hK hi hd
  have hφ : ∀ j ∈ ρ, j < φ.length := fun j hj => by rw [hi.len]; exact hb j hj
  have hyφ : ∀ j ∈ fr, φ[j]? = some .yet := fun j hj => by
    have h1 := hyet j hj
    obtain ⟨p, hp⟩ := ofLtL (xs := φ) (i := j) (by rw [hi.len]; exact get_lt h1)
    have := hi.ok j p _ hp h1
    cases p <;> first | exact this.elim | exact hp
  have hφ' : ∀ j ∈ ρ ++ fr, j < φ.length := fun j hj => by
    rcases List.mem_append.1 hj with hj | hj
    · exact hφ j hj
    · exact get_lt (hyφ j hj)
  have hnρ : ρ.Nodup := (List.nodup_append.1 hn).1
  -- a number that has an object is one of ρ's
  have gin0 : ∀ i, lv φ (gB (ρ ++ fr) φ.length i) → ∃ j, ρ[i]? = some j ∧ gB (ρ ++ fr) φ.length i = j := fun i ⟨p, hp, hne⟩ => by
    unfold gB at hp ⊢
    cases hr : (ρ ++ fr)[i]? with
    | none => rw [hr] at hp; have := get_lt hp; simp only [Option.getD_none] at this; omega
    | some j =>
      rw [hr] at hp
      by_cases hlt : i < ρ.length
      · rw [List.getElem?_append_left hlt] at hr
        exact ⟨j, hr, rfl⟩
      · rw [List.getElem?_append_right (by omega)] at hr
        have := hyφ j (List.mem_of_getElem? hr)
        simp only [Option.getD_some] at hp
        rw [this] at hp; cases hp; exact absurd rfl hne
  let φl : List Pl := ρ.map fun j => (φ[j]?).getD .dead
  have hφl : ∀ i : Nat, φl[i]? = (ρ[i]?).bind fun j => φ[j]? := fun i => by
    simp only [φl, List.getElem?_map]
    cases hr : ρ[i]? with
    | none => rfl
    | some j =>
      obtain ⟨p, hp⟩ := ofLtL (hφ j (List.mem_of_getElem? hr))
      simp [hp]
  have hlφ : φl.length = ρ.length := by simp [φl]
  let F' : Fr := ⟨fun b o => F.shut b o ∨ ∃ (j : Nat) (p : Pl), φ[j]? = some p ∧ j ∉ ρ ∧ ((∃ z, p = .obj b z) ∨ ∃ e, p = .tail b e ∧ e ≤ o), F.known⟩
  have old : ∀ (i : Nat) (p : Pl), φl[i]? = some p → ∃ j, ρ[i]? = some j ∧ φ[j]? = some p := fun i p hp => by
    rw [hφl] at hp
    cases hr : ρ[i]? with
    | none => rw [hr] at hp; cases hp
    | some j => rw [hr] at hp; exact ⟨j, rfl, hp⟩
  have pdown : ∀ b o, prot F φ w b o → prot F' φl w b o := fun b o ⟨h1, h2, h3, h4⟩ =>
    ⟨h1, fun i hi' => by obtain ⟨j, _, hj⟩ := old i _ hi'; exact h2 j hj, fun i e hi' => by obtain ⟨j, _, hj⟩ := old i _ hi'; exact h3 j e hj, fun hF => by
      rcases hF with hF | ⟨j, p, hj, _, ⟨z, rfl⟩ | ⟨e, rfl, hle⟩⟩
      · exact h4 hF
      · exact h2 j hj
      · have := h3 j e hj; omega⟩
  have gdown : ∀ i, lv φ (gB (ρ ++ fr) φ.length i) → lv φl i ∧ φl[i]? = φ[gB (ρ ++ fr) φ.length i]? := fun i hlv => by
    obtain ⟨j, hr, e1⟩ := gin0 i hlv
    obtain ⟨p, hp, hne⟩ := hlv
    rw [e1] at hp ⊢
    have e : φl[i]? = φ[j]? := by rw [hφl, hr]; rfl
    exact ⟨⟨p, by rw [e]; exact hp, hne⟩, e⟩
  have hinvl : Inv F' φl w hl := by
    refine ⟨by rw [hlφ, hlen], fun i p o hp ho => ?_, fun i j p q b hp hq hb1 hb2 => ?_, fun b o hF => ?_, fun i p b o hp hb1 hF => ?_, fun b x hx => ?_⟩
    · obtain ⟨j, hr, hj⟩ := old i p hp
      have hok := hi.ok j p _ hj (hpick φ.length i j o hr ho)
      cases p <;> cases o <;> simp only [ObOk, renO] at hok ⊢
      · obtain ⟨arr, hr, hz, hl, hd⟩ := hok
        refine ⟨arr, hr, hz, by rw [renL_len] at hl; exact hl, fun k v hv => ?_⟩
        obtain ⟨u, h1, h2, h3⟩ := hd k _ (by rw [renL_get, hv]; rfl)
        exact ⟨u, h1, h2, h3.down pdown gdown v rfl⟩
      · obtain ⟨ents, clock, hr, hl, hd⟩ := hok
        refine ⟨ents, clock, hr, by simpa [GM.mapV] using hl, fun k m e hm he => ?_⟩
        obtain ⟨h1, h2⟩ := hd k m ⟨e.born, e.key, renV _ e.val⟩ hm (by simp only [GM.mapV, List.getElem?_map, he]; rfl)
        exact ⟨h1, h2.down pdown gdown _ rfl⟩
      · exact hok
      · rename_i cs; cases cs with
        | nil => rfl
        | cons a l => simp [renL] at hok
    · obtain ⟨i', hr, hj⟩ := old i p hp
      obtain ⟨j', hr', hj'⟩ := old j q hq
      have := hi.apart i' j' p q b hj hj' hb1 hb2
      subst this
      exact (List.getElem?_inj (get_lt hr) hnρ).1 (by rw [hr, hr'])
    · rcases hF with hF | ⟨j, p, hj, _, ⟨z, rfl⟩ | ⟨e, rfl, hle⟩⟩
      · exact hi.frB b o hF
      · exact hi.lt hj rfl
      · exact hi.lt hj rfl
    · obtain ⟨i', hr, hi'⟩ := old i p hp
      rcases hF with hF | ⟨j, q, hj, hjn, hq⟩
      · exact hi.frO i' p b o hi' hb1 hF
      · have : i' = j := hi.apart i' j p q b hi' hj hb1 (by rcases hq with ⟨z, rfl⟩ | ⟨e, rfl, _⟩ <;> rfl)
        subst this
        exact hjn (List.mem_of_getElem? hr)
    · obtain ⟨h1, h2⟩ := hi.frK b x hx
      exact ⟨h1, fun i p hp => by obtain ⟨j, _, hj⟩ := old i p hp; exact h2 j p hj⟩
  have hdl : DenL F' φl w args.toList vs' := by
    have h1 := hv φ.length F φ w _ hd
    refine .of_get (by have := h1.length; simpa using this) fun i r v hr hvv => ?_
    exact (h1.get i r _ hr (by rw [List.getElem?_map, hvv]; rfl)).down pdown gdown v rfl
  refine (hs F' φl w args hK hinvl hdl).mono ?_
  rintro e w' ⟨u, φl', v, hl', rfl, he, hil, hdv, hR⟩
  have hcl : hl'.length = (ρ ++ fr).length := hcount v hl' hR
  have hcp : φl'.length = (ρ ++ fr).length := by rw [hil.len, hcl]
  let φ' : List Pl := setAll φ (ρ ++ fr) φl'
  have hlen' : φ'.length = φ.length := setAll_len _ _ _
  have gin : ∀ (i j : Nat), (ρ ++ fr)[i]? = some j → φ'[j]? = φl'[i]? := fun i j hr => setAll_at _ _ φ hn hcp.symm hφ' i j hr
  have gout : ∀ j, j ∉ ρ ++ fr → φ'[j]? = φ[j]? := fun j hjn => setAll_not _ _ φ j hjn
  have src : ∀ (x : Nat) (p : Pl), φ'[x]? = some p → (∃ i, φl'[i]? = some p ∧ (ρ ++ fr)[i]? = some x) ∨ (x ∉ ρ ++ fr ∧ φ[x]? = some p) := fun x p hp => by
    by_cases hm : x ∈ ρ ++ fr
    · obtain ⟨i, hi'⟩ := List.mem_iff_getElem?.1 hm
      exact .inl ⟨i, by rw [← gin i x hi']; exact hp, hi'⟩
    · exact .inr ⟨hm, by rw [← gout x hm]; exact hp⟩
  have gup : ∀ i, lv φl' i → lv φ' (gB (ρ ++ fr) φ.length i) ∧ φ'[gB (ρ ++ fr) φ.length i]? = φl'[i]? := fun i hlv => by
    obtain ⟨p, hp, hne⟩ := hlv
    obtain ⟨j, hj⟩ := ofLtL (xs := ρ ++ fr) (i := i) (by rw [← hcp]; exact get_lt hp)
    have e1 : gB (ρ ++ fr) φ.length i = j := by unfold gB; rw [hj]; rfl
    have e := gin i j hj
    rw [e1]
    exact ⟨⟨p, by rw [e]; exact hp, hne⟩, e⟩
  have gz : ∀ i, lv φ' (gB (ρ ++ fr) φ.length i) → gB (ρ ++ fr) 0 i = gB (ρ ++ fr) φ.length i := fun i ⟨p, hp, _⟩ => by
    unfold gB at hp ⊢
    cases hr : (ρ ++ fr)[i]? with
    | some j => rfl
    | none => rw [hr] at hp; have := get_lt hp; simp only [Option.getD_none, hlen'] at this; omega
  have nofr : ∀ j ∈ fr, ∀ p, φ[j]? = some p → p = .yet := fun j hj p hp => by rw [hyφ j hj] at hp; cases hp; rfl
  have notin : ∀ (j : Nat) (p : Pl) (b : Nat), φ[j]? = some p → j ∉ ρ → p.blk = some b → ∀ (i : Nat) (q : Pl), φl[i]? = some q → q.blk ≠ some b := fun j p b hj hjn hpb i q hq hqb => by
    obtain ⟨i', hr, hi'⟩ := old i q hq
    have := hi.apart i' j q p b hi' hj hqb hpb
    subst this
    exact hjn (List.mem_of_getElem? hr)
  have oldl : ∀ (i : Nat) (p : Pl) (b : Nat), φl'[i]? = some p → p.blk = some b → b < w.heap.size → ∃ (j : Nat) (q : Pl), j ∈ ρ ∧ φ[j]? = some q ∧ q.blk = some b := fun i p b hp hpb hlt => by
    have h0 : ∃ (i' : Nat) (q : Pl), φl[i']? = some q ∧ q.blk = some b := by
      cases p with
      | obj b' z => cases hpb; obtain ⟨j, _, hj⟩ := he.objs i b hp hlt; exact ⟨j, _, hj, rfl⟩
      | tail b' e' =>
        cases hpb
        rcases he.tails i b e' hp hlt with ⟨j, e2, hj, _⟩ | ⟨j, _, hj⟩
        · exact ⟨j, _, hj, rfl⟩
        · exact ⟨j, _, hj, rfl⟩
      | free => cases hpb
      | dead => cases hpb
      | yet => cases hpb
    obtain ⟨i', q, hq, hqb⟩ := h0
    obtain ⟨j, hr, hj⟩ := old i' q hq
    exact ⟨j, q, List.mem_of_getElem? hr, hj, hqb⟩
  have hext : Ext φ w φ' w' := by
    refine ⟨he.size, by rw [hlen']; omega, fun x hx => ?_, fun b hlt hno => ?_, fun x b e2 hx c T fr' hc => ?_, fun x b hp hlt => ?_, fun x b e' hp hlt => ?_, he.io⟩
    · obtain ⟨p, hp, hne⟩ := hx
      by_cases hm : x ∈ ρ
      · obtain ⟨i, hi'⟩ := List.mem_iff_getElem?.1 hm
        have hi2 : (ρ ++ fr)[i]? = some x := by rw [List.getElem?_append_left (get_lt hi')]; exact hi'
        rw [gin i x hi2]
        have e : φl[i]? = φ[x]? := by rw [hφl, hi']; rfl
        have := he.old i ⟨p, by rw [e]; exact hp, hne⟩
        rw [e] at this
        exact this
      · have hmf : x ∉ fr := fun h => hne (nofr x h p hp)
        exact .inl (gout x (by simp [hm, hmf]))
    · exact he.keep b hlt fun i p hp => by obtain ⟨j, _, hj⟩ := old i p hp; exact hno j p hj
    · by_cases hm : x ∈ ρ
      · obtain ⟨i, hi'⟩ := List.mem_iff_getElem?.1 hm
        exact he.tail i b e2 (by rw [hφl, hi']; exact hx) c T fr' hc
      · refine ⟨c, ?_, rfl, fun _ _ => rfl⟩
        rw [he.keep b (heap_lt hc) (notin x _ b hx hm rfl)]; exact hc
    · rcases src x _ hp with ⟨i, hi', _⟩ | ⟨_, hx⟩
      · obtain ⟨j, _, hj⟩ := he.objs i b hi' hlt
        obtain ⟨j', _, hj'⟩ := old j _ hj
        exact ⟨j', _, hj'⟩
      · exact ⟨x, _, hx⟩
    · rcases src x _ hp with ⟨i, hi', _⟩ | ⟨_, hx⟩
      · rcases he.tails i b e' hi' hlt with ⟨j, e2, hj, hle⟩ | ⟨j, _, hj⟩
        · obtain ⟨j', _, hj'⟩ := old j _ hj
          exact .inl ⟨j', e2, hj', hle⟩
        · obtain ⟨j', _, hj'⟩ := old j _ hj
          exact .inr ⟨j', _, hj'⟩
      · exact .inl ⟨x, e', hx, Nat.le_refl _⟩
  have pup : ∀ b o, prot F' φl' w' b o → prot F φ' w' b o := fun b o ⟨h1, h2, h3, h4⟩ => by
    refine ⟨h1, fun x hx => ?_, fun x e2 hx => ?_, fun hF => h4 (.inl hF)⟩
    · rcases src x _ hx with ⟨i, hi', _⟩ | ⟨hjn, hx'⟩
      · exact h2 i hi'
      · exact h4 (.inr ⟨x, _, hx', fun hm => hjn (List.mem_append.2 (.inl hm)), .inl ⟨_, rfl⟩⟩)
    · rcases src x _ hx with ⟨i, hi', _⟩ | ⟨hjn, hx'⟩
      · exact h3 i e2 hi'
      · by_cases hle : e2 ≤ o
        · exact absurd (.inr ⟨x, _, hx', fun hm => hjn (List.mem_append.2 (.inl hm)), .inr ⟨e2, rfl, hle⟩⟩) h4
        · omega
  have hmapl : (hl'.map (renO (gB (ρ ++ fr) 0))).length = (ρ ++ fr).length := by simp [hcl]
  have hbh : ∀ j ∈ ρ ++ fr, j < h.length := fun j hj => by rw [← hi.len]; exact hφ' j hj
  have hobj : ∀ (x : Nat) (o : Ho), (setAll h (ρ ++ fr) (hl'.map (renO (gB (ρ ++ fr) 0))))[x]? = some o → (∃ (i : Nat) (o' : Ho), hl'[i]? = some o' ∧ (ρ ++ fr)[i]? = some x ∧ o = renO (gB (ρ ++ fr) 0) o') ∨ (x ∉ ρ ++ fr ∧ h[x]? = some o) := fun x o ho => by
    by_cases hm : x ∈ ρ ++ fr
    · obtain ⟨i, hi'⟩ := List.mem_iff_getElem?.1 hm
      rw [setAll_at _ _ h hn hmapl.symm hbh i x hi', List.getElem?_map] at ho
      obtain ⟨o', ho', rfl⟩ := Option.map_eq_some_iff.1 ho
      exact .inl ⟨i, o', ho', hi', rfl⟩
    · rw [setAll_not _ _ h x hm] at ho
      exact .inr ⟨hm, ho⟩
  have inj : ∀ (i j x : Nat), (ρ ++ fr)[i]? = some x → (ρ ++ fr)[j]? = some x → i = j := fun i j x h1 h2 => (List.getElem?_inj (get_lt h1) hn).1 (by rw [h1, h2])
  have hinv : Inv F φ' w' (setAll h (ρ ++ fr) (hl'.map (renO (gB (ρ ++ fr) 0)))) := by
    refine ⟨?_, fun x p o hp ho => ?_, fun x y p q b hp hq hb1 hb2 => ?_, fun b o hF => Nat.lt_of_lt_of_le (hi.frB b o hF) he.size, fun x p b o hp hb1 hF => ?_, fun b y hy => ?_⟩
    · rw [hlen', setAll_len, hi.len]
    · rcases src x p hp with ⟨i, hi', hxi⟩ | ⟨hm, hx'⟩
      · rcases hobj _ o ho with ⟨i2, o', ho', e1, rfl⟩ | ⟨h2, _⟩
        · have := inj _ _ _ hxi e1
          subst this
          have hok := hil.ok i p o' hi' ho'
          refine ObOk.reg gz ?_
          cases p <;> cases o' <;> simp only [ObOk, renO] at hok ⊢
          · obtain ⟨arr, hr, hz, hl, hd⟩ := hok
            refine ⟨arr, hr, hz, by rw [renL_len]; exact hl, fun k v hv => ?_⟩
            rw [renL_get] at hv
            obtain ⟨y, hy, rfl⟩ := Option.map_eq_some_iff.1 hv
            obtain ⟨u, h1, h2, h3⟩ := hd k y hy
            exact ⟨u, h1, h2, h3.up pup gup⟩
          · obtain ⟨ents, clock, hr, hl, hd⟩ := hok
            refine ⟨ents, clock, hr, by simpa [GM.mapV] using hl, fun k m e hm he => ?_⟩
            simp only [GM.mapV, List.getElem?_map] at he
            obtain ⟨y, hy, rfl⟩ := Option.map_eq_some_iff.1 he
            obtain ⟨h1, h2⟩ := hd k m y hm hy
            exact ⟨h1, h2.up pup gup⟩
          · exact hok
          · subst hok; rfl
        · exact absurd (List.mem_of_getElem? hxi) h2
      · rcases hobj x o ho with ⟨i2, o', ho', e1, rfl⟩ | ⟨h2, ho'⟩
        · exact absurd (List.mem_of_getElem? e1) hm
        · exact (hi.ok x p o hx' ho').ext hext fun b hpb => he.keep b (hi.lt hx' hpb) (notin x p b hx' (fun h => hm (List.mem_append.2 (.inl h))) hpb)
    · rcases src x p hp with ⟨i, hi', hxi⟩ | ⟨hm, hx'⟩ <;> rcases src y q hq with ⟨j, hj', hyj⟩ | ⟨hm2, hy'⟩
      · have := hil.apart i j p q b hi' hj' hb1 hb2
        subst this
        rw [hxi] at hyj; cases hyj; rfl
      · exfalso
        have hlt := hi.lt hy' hb2
        obtain ⟨j, q', hjm, hj, hqb⟩ := oldl i p b hi' hb1 hlt
        have := hi.apart j y q' q b hj hy' hqb hb2
        subst this; exact hm2 (List.mem_append.2 (.inl hjm))
      · exfalso
        have hlt := hi.lt hx' hb1
        obtain ⟨j', q', hjm, hj, hqb⟩ := oldl j q b hj' hb2 hlt
        have := hi.apart j' x q' p b hj hx' hqb hb1
        subst this; exact hm (List.mem_append.2 (.inl hjm))
      · exact hi.apart x y p q b hx' hy' hb1 hb2
    · rcases src x p hp with ⟨i, hi', _⟩ | ⟨hm, hx'⟩
      · exact hil.frO i p b o hi' hb1 (.inl hF)
      · exact hi.frO x p b o hx' hb1 hF
    · obtain ⟨h1, h2⟩ := hil.frK b y hy
      refine ⟨h1, fun x p hp => ?_⟩
      rcases src x p hp with ⟨i, hi', _⟩ | ⟨hm, hx'⟩
      · exact h2 i p hi'
      · exact (hi.frK b y hy).2 x p hx'
  exact ⟨u, φ', _, _, rfl, hext, hinv, (hdv.up pup gup).reg gz v rfl, hk v hl' hR⟩
end
end
section
open Go Go.RowKit
set_option linter.unusedVariables false
set_option linter.unusedSimpArgs false
variable {F : Fr} {P : Program} {M : Oper → TypeId → Bool} {K : Nat → Obj → Prop} {n0 : Nat}
inductive Lr where
  | pure (v : V)
  | read (i : Nat) (k : Ho → Option V)
  | write (i : Nat) (k : Ho → Option (V × Ho))
  | new (v : Nat → V) (o : Ho)
  | app (t : Nat) (v : Nat → V)
  | call (f : Nat) (vs : List V)
  | no
def pureL (r : Res) : Lr := match r with
  | .val v _ => .pure v
  | _ => .no
def oneH : Option (V × List Ho) → Option (V × Ho)
  | some (v, [o]) => some (v, o)
  | _ => none
def opL (P : Program) (M : TypeId → Bool) (tm : List V) (o : Oper) : Lr :=
  match o.op with
  | .alloc e => match zeroVs P e with
    | some cs => .new (fun r => .ptr r 0) (.cells cs)
    | none => .no
  | .box e x => match evV tm x with
    | some v => if (cellsV v).all isOne = true then .new (fun r => .ptr r 0) (.cells (cellsV v)) else .no
    | none => .no
  | .load t p => match evV tm p, knownT P t with
    | some (.ptr i off), true => .read i fun ob => loadV P [ob] t (.ptr 0 off)
    | some p, true => pureL (resOf [] (loadV P [] t p))
    | _, _ => .no
  | .store t p x => match evV tm p, evV tm x with
    | some (.ptr i off), some v => .write i fun ob => match storeV P [ob] t (.ptr 0 off) v with
      | some [ob'] => some (.undef, ob')
      | _ => none
    | _, _ => .no
  | .makeMap t none => .new (fun r => .mp r) (.map ⟨0, []⟩)
  | .buildSlice t len parts => match evParts tm parts.toList with
    | some vs => if M t = true then match buildSliceH P 0 t len vs with
      | some (.hs g k _ off n, ob) => .new (fun r => .hs g k r off n) ob
      | _ => .no else pureL (resOf [] (buildSliceV P t len vs))
    | none => .no
  | .makeSlice t l c => match evV tm l, evV tm c with
    | some a, some b => if M t = true then match makeSliceH P 0 t (intOfV a) (intOfV b) with
      | some (.hs g k _ off n, ob) => .new (fun r => .hs g k r off n) ob
      | _ => .no else pureL (resOf [] (makeSliceV P t (intOfV a) (intOfV b)))
    | _, _ => .no
  | .lookup t x k ok => match evV tm x, evV tm k with
    | some (.mp i), some b => .read i fun ob => lookupV P [ob] t (.mp 0) b ok
    | some a, some b => pureL (resOf [] (lookupV P [] t a b ok))
    | _, _ => .no
  | .mapUpdate t x k v => match evV tm x, evV tm k, evV tm v with
    | some (.mp i), some b, some c => .write i fun ob => oneH (mapUpdateV P [ob] t (.mp 0) b c)
    | _, _, _ => .no
  | .mapEntry t x k => match evV tm x, evV tm k with
    | some (.mp i), some b => .write i fun ob => oneH (mapEntryV P [ob] t (.mp 0) b)
    | _, _ => .no
  | .entryStore _ x s v => match evV tm x, evV tm s, evV tm v with
    | some (.mp i), some b, some c => .write i fun ob => oneH (entryStoreV [ob] (.mp 0) b c)
    | _, _, _ => .no
  | .call c => match c.callee with
    | .builtin .append => match c.argTypes.toList, evArgs tm c.args.toList with
      | [st, xt], some [s, x] => if M st = true then .no else match s with
        | .own k es t => match appendV P (List.replicate (t + 1) .tail) 0 st xt (.own k es t) x with
          | some (.own k' es' _, _) => .app t fun r => .own k' es' r
          | _ => .no
        | s => match appendV P [] 0 st xt s x with
          | some (.own k' es' _, _) => .new (fun r => .own k' es' r) .tail
          | _ => .no
      | _, _ => .no
    | .builtin .copy => match c.argTypes.toList, evArgs tm c.args.toList with
      | [dt, xt], some [.hs g k i off n, x] => match x with
        | .hs g' k' j off' n' => if j = i then .write i fun ob => oneH (copyV P [ob] dt xt (.hs g k 0 off n) (.hs g' k' 0 off' n')) else .no
        | x => .write i fun ob => oneH (copyV P [ob] dt xt (.hs g k 0 off n) x)
      | _, _ => .no
    | .builtin .delete => match c.argTypes.toList, evArgs tm c.args.toList with
      | [t, _], some [.mp i, k] => .write i fun ob => oneH (deleteV P [ob] t (.mp 0) k)
      | _, _ => .no
    | .builtin .len => match c.argTypes.toList, evArgs tm c.args.toList with
      | [t], some [x] => match x with
        | .mp i => .read i fun ob => match isMapT P t, ob with
          | true, .map m => some (.sc (.int .i64 m.es.length))
          | _, _ => none
        | x => pureL (resOf [] (lenV P t x))
      | _, _ => .no
    | .builtin _ => pureL (callV P M tm [] 0 c)
    | .value f => match evV tm f, evArgs tm c.args.toList with
      | some (.fn g cap), some vs => .call g (vs ++ cap)
      | _, _ => .no
    | _ => .no
  | .convert src dst x => match evV tm x with
    | some (.hs _ k i off n) => .write i fun ob => oneH (convHV P [ob] src dst k 0 off n)
    | some a => pureL (resOf [] (convV P src dst a))
    | none => .no
  | _ => pureL (opV P M tm [] 0 o)
def runL (h : List Ho) (r : Nat) : Lr → Res
  | .pure v => .val v h
  | .read i k => match (h[i]?).bind k with
    | some v => .val v h
    | none => .no
  | .write i k => match (h[i]?).bind k with
    | some (v, o) => .val v (h.set i o)
    | none => .no
  | .new v o => .val (v r) (h.set r o)
  | .app t v => match h[t]? with
    | some .tail => .val (v r) ((h.set t .dead).set r .tail)
    | _ => .no
  | .call f vs => .call f vs
  | .no => .no
theorem pureL_res {h : List Ho} {o : Option V} {v : V} (e : pureL (resOf [] o) = .pure v) : resOf h o = .val v h := by
  cases o <;> simp only [resOf, pureL, reduceCtorEq, Lr.pure.injEq] at e ⊢
  subst e; rfl
theorem load_one {h : List Ho} {t : TypeId} {i off : Nat} {ob : Ho} (ho : h[i]? = some ob) : loadV P h t (.ptr i off) = loadV P [ob] t (.ptr 0 off) := by
  simp only [loadV, ho, List.getElem?_cons_zero]
theorem store_one {h : List Ho} {t : TypeId} {i off : Nat} {ob : Ho} {v : V} (ho : h[i]? = some ob) : storeV P h t (.ptr i off) v = (match storeV P [ob] t (.ptr 0 off) v with
    | some [ob'] => some (h.set i ob')
    | _ => none) := by
  simp only [storeV, ho, List.getElem?_cons_zero]
  cases ob <;> first | rfl | skip
  rename_i cs
  by_cases hc : szT P t = some (cellsV v).length ∧ (cellsV v).all isOne = true ∧ off + (cellsV v).length ≤ cs.length
  · dsimp only; rw [if_pos hc, if_pos hc]; rfl
  · dsimp only; rw [if_neg hc, if_neg hc]
theorem convH_one {h : List Ho} {src dst : TypeId} {k i off n : Nat} {ob : Ho} (ho : h[i]? = some ob) : convHV P h src dst k i off n = (oneH (convHV P [ob] src dst k 0 off n)).map fun q => (q.1, h.set i q.2) := by
  unfold convHV
  rw [ho]
  simp only [List.getElem?_cons_zero]
  cases ob <;> try rfl
  rename_i cs
  dsimp only
  split
  · split
    · split <;> rfl
    · rfl
  · rfl
theorem srcH_hs {h : List Ho} {k : Nat} {xt : TypeId} {g : Bool} {k' i off n : Nat} {ob : Ho} (ho : h[i]? = some ob) : srcH P h k xt (.hs g k' i off n) = srcH P [ob] k xt (.hs g k' 0 off n) := by
  unfold srcH
  split
  · simp only [ho, List.getElem?_cons_zero]
  · rfl
theorem srcH_no {h : List Ho} {k : Nat} {xt : TypeId} {x : V} (hx : ∀ g k o off n, x ≠ .hs g k o off n) : srcH P h k xt x = srcH P [] k xt x := by
  unfold srcH
  split
  · cases x <;> first | rfl | exact absurd rfl (hx _ _ _ _ _)
  · rfl
theorem copy_one {h : List Ho} {dt xt : TypeId} {g : Bool} {k i off n : Nat} {x y : V} {ob : Ho} (ho : h[i]? = some ob) (hx : ∀ k, srcH P h k xt x = srcH P [ob] k xt y) : copyV P h dt xt (.hs g k i off n) x = (oneH (copyV P [ob] dt xt (.hs g k 0 off n) y)).map fun q => (q.1, h.set i q.2) := by
  unfold copyV
  split
  · split
    · rename_i e _ k0 _
      rw [hx k0]
      cases srcH P [ob] k0 xt y with
      | none => rfl
      | some p =>
        obtain ⟨m, xs⟩ := p
        dsimp only
        rw [ho]
        simp only [List.getElem?_cons_zero]
        cases ob <;> try rfl
        dsimp only
        split <;> rfl
    · rfl
  · rfl
theorem lookup_one {h : List Ho} {t : TypeId} {i : Nat} {ob : Ho} {k : V} {ok : Bool} (ho : h[i]? = some ob) : lookupV P h t (.mp i) k ok = lookupV P [ob] t (.mp 0) k ok := by
  simp only [lookupV, mapOf, ho, List.getElem?_cons_zero]
theorem atMap_one {h : List Ho} {t : TypeId} {i : Nat} {ob : Ho} {k : V} {f : GM → Value → TypeId → Option (V × GM)} (ho : h[i]? = some ob) : atMap P h t (.mp i) k f = (oneH (atMap P [ob] t (.mp 0) k f)).map fun r => (r.1, h.set i r.2) := by
  unfold atMap
  cases hu : P.underlying t with
  | none => rfl
  | some d =>
    cases d <;> try rfl
    rename_i kt et
    cases k <;> try rfl
    rename_i y
    cases y <;> try rfl
    rename_i key
    cases hk : P.underlying kt with
    | none => dsimp only; rw [hk]; rfl
    | some kd =>
      dsimp only
      rw [hk, ho, List.getElem?_cons_zero]
      cases ob with
      | map m =>
        by_cases hc : keyOk kd key = true ∧ keysOk kd m.es = true
        · simp only [if_pos hc]
          cases f m key et with
          | none => rfl
          | some r => rfl
        · simp only [if_neg hc]; rfl
      | _ => rfl
theorem entryStore_one {h : List Ho} {i : Nat} {ob : Ho} {s v : V} (ho : h[i]? = some ob) : entryStoreV h (.mp i) s v = (oneH (entryStoreV [ob] (.mp 0) s v)).map fun r => (r.1, h.set i r.2) := by
  unfold entryStoreV
  cases s <;> try rfl
  rename_i y
  cases y <;> try rfl
  rename_i key
  cases key <;> try rfl
  rename_i n
  dsimp only
  rw [ho, List.getElem?_cons_zero]
  cases ob with
  | map m =>
    by_cases hc : 0 ≤ n
    · simp only [if_pos hc]
      cases m.store n.toNat v with
      | none => rfl
      | some r => rfl
    · simp only [if_neg hc]; rfl
  | _ => rfl
theorem buildH_num {r t len : Nat} {ps : List (Nat × V)} {g : Bool} {k o off n : Nat} {ob : Ho} (h : buildSliceH P 0 t len ps = some (.hs g k o off n, ob)) : buildSliceH P r t len ps = some (.hs g k r off n, ob) := by
  unfold buildSliceH at h ⊢
  split at h
  case h_2 => cases h
  rename_i e hu
  split at h
  case h_2 => cases h
  rename_i k z hk hz
  split at h
  case isFalse => cases h
  rename_i hc
  rw [if_pos hc]
  obtain ⟨cs, hcs, heq⟩ := Option.map_eq_some_iff.1 h
  cases heq
  rw [hcs]; rfl
theorem makeH_num {r t : Nat} {l c : Option Int} {g : Bool} {k o off n : Nat} {ob : Ho} (h : makeSliceH P 0 t l c = some (.hs g k o off n, ob)) : makeSliceH P r t l c = some (.hs g k r off n, ob) := by
  unfold makeSliceH at h ⊢
  split at h
  case h_2 => cases h
  rename_i n m e hu
  split at h
  case h_2 => cases h
  rename_i k b z hk hb hz
  split at h
  case isFalse => cases h
  rename_i hc
  rw [if_pos hc]
  cases h; rfl
theorem append_own {h : List Ho} {r : Nat} {st xt : TypeId} {k t k' t' : Nat} {es es' : List (List D)} {x : V} {h2 : List Ho} (e : appendV P (List.replicate (t + 1) .tail) 0 st xt (.own k es t) x = some (.own k' es' t', h2)) (ht : h[t]? = some .tail) :
    appendV P h r st xt (.own k es t) x = some (.own k' es' r, (h.set t .dead).set r .tail) := by
  have h0 : (List.replicate (t + 1) Ho.tail)[t]? = some .tail := by rw [List.getElem?_replicate, if_pos (by omega)]
  unfold appendV at e ⊢
  split at e
  · split at e
    · split at e
      · rename_i hc
        simp only [if_pos hc]
        split at e
        · rename_i xs hx
          simp only [hx, h0, ht] at e ⊢
          split at e
          · rename_i hcc
            simp only [if_pos hcc]
            cases e; rfl
          · cases e
        · cases e
      · cases e
    · cases e
  · cases e
theorem append_new {h : List Ho} {r k' t' : Nat} {es' : List (List D)} {st xt : TypeId} {s x : V} {h2 : List Ho} (hs : ∀ k es t, s ≠ .own k es t) (e : appendV P [] 0 st xt s x = some (.own k' es' t', h2)) : appendV P h r st xt s x = some (.own k' es' r, h.set r .tail) := by
  unfold appendV at e ⊢
  cases hu : P.underlying st with
  | none => rw [hu] at e; cases e
  | some d =>
    rw [hu] at e
    cases d <;> simp only [reduceCtorEq] at e ⊢
    rename_i el
    cases h1 : szT P el with
    | none => rw [h1] at e; cases e
    | some k =>
      cases h2 : byT P el with
      | none => rw [h1, h2] at e; cases e
      | some b =>
        cases h3 : zeroT P el with
        | none => rw [h1, h2, h3] at e; cases e
        | some z =>
          rw [h1, h2, h3] at e
          dsimp only at e ⊢
          by_cases hc : z.cells.size = k ∧ 0 < k
          · rw [if_pos hc] at e ⊢
            cases h4 : srcOf P k xt x with
            | none => rw [h4] at e; cases e
            | some xs =>
              rw [h4] at e
              dsimp only at e ⊢
              split at e
              · rename_i k' es t; exact absurd rfl (hs k' es t)
              · rename_i k' es
                by_cases hcc : k' = k ∧ (es.length + xs.length) * b ≤ appBound ∧ es.length + xs.length ≤ appBound
                · rw [if_pos hcc] at e ⊢
                  cases e; rfl
                · rw [if_neg hcc] at e; cases e
              · by_cases hcc : xs.length * b ≤ appBound ∧ xs.length ≤ appBound
                · rw [if_pos hcc] at e ⊢
                  cases e; rfl
                · rw [if_neg hcc] at e; cases e
              · cases e
          · rw [if_neg hc] at e; cases e
theorem callV_pure {Mc : TypeId → Bool} {tm : List V} {h : List Ho} {r : Nat} {c : Call} {v : V} (hc : ∀ f, c.callee ≠ .value f) (hc2 : c.callee ≠ .builtin .append) (hc3 : c.callee ≠ .builtin .copy) (hc4 : c.callee ≠ .builtin .delete) (hc5 : c.callee ≠ .builtin .len) (e : pureL (callV P Mc tm [] 0 c) = .pure v) : callV P Mc tm h r c = .val v h := by
  unfold callV at e ⊢
  split at e
  · rename_i f hf; exact absurd hf (hc f)
  · rename_i hf; exact absurd hf hc2
  · rename_i hf; exact absurd hf hc3
  · rename_i hf; exact absurd hf hc4
  · rename_i hf; exact absurd hf hc5
  · split at e
    · cases e; rfl
    · cases e
  · split at e
    · cases e; rfl
    · cases e
  · cases e
theorem opV_free {tm : List V} {o : Oper} (hn1 : ∀ e, o.op = .alloc e → False) (hn2 : ∀ e x, o.op = .box e x → False) (hn3 : ∀ t p, o.op = .load t p → False) (hn4 : ∀ t p x, o.op = .store t p x → False) (hn6 : ∀ t, o.op = .makeMap t none → False) (hn7 : ∀ t l p, o.op = .buildSlice t l p → False) (hn8 : ∀ t l c, o.op = .makeSlice t l c → False) (hn9 : ∀ t x k b, o.op = .lookup t x k b → False) (hn10 : ∀ t x k v, o.op = .mapUpdate t x k v → False) (hn11 : ∀ t x k, o.op = .mapEntry t x k → False) (hn12 : ∀ t x s v, o.op = .entryStore t x s v → False) (hn5 : ∀ c, o.op = .call c → False) (hn13 : ∀ s d x, o.op = .convert s d x → False) :
    ∃ ov : Option V, ∀ h r, opV P (M o) tm h r o = resOf h ov := by
  cases ho : o.op with
  | alloc e => exact (hn1 _ ho).elim
  | box e x => exact (hn2 _ _ ho).elim
  | load t p => exact (hn3 _ _ ho).elim
  | store t p x => exact (hn4 _ _ _ ho).elim
  | call c => exact (hn5 _ ho).elim
  | buildSlice t l p => exact (hn7 _ _ _ ho).elim
  | makeSlice t l c => exact (hn8 _ _ _ ho).elim
  | lookup t x k b => exact (hn9 _ _ _ _ ho).elim
  | mapUpdate t x k v => exact (hn10 _ _ _ _ ho).elim
  | mapEntry t x k => exact (hn11 _ _ _ ho).elim
  | entryStore t x s v => exact (hn12 _ _ _ _ ho).elim
  | makeMap t r =>
    cases r with
    | none => exact (hn6 _ ho).elim
    | some r => exact ⟨none, fun h r => by simp only [opV, ho]; rfl⟩
  | move x => exact ⟨evV tm x, fun h r => by simp only [opV, ho]⟩
  | assign x => exact ⟨evV tm x, fun h r => by simp only [opV, ho]⟩
  | pick c a b => exact ⟨match evV tm c, evV tm a, evV tm b with
    | some (.d (.sc (.bool t))), some va, some vb => some (match t with | true => va | false => vb)
    | _, _, _ => none, fun h r => by simp only [opV, ho]; (repeat' split) <;> first | rfl | simp_all [resOf]⟩
  | build t parts => exact ⟨match zeroVs P t, evParts tm parts.toList, shapeT P t with
    | some z, some vs, true => (fillV (placeOf P t) z vs).map V.agg
    | _, _, _ => none, fun h r => by simp only [opV, ho]; (repeat' split) <;> first | rfl | simp_all [resOf]⟩
  | nilCheck x => exact ⟨match evV tm x with
    | some (.ptr o off) => some (.ptr o off)
    | some (.ep c off) => some (.ep c off)
    | some (.fn f cap) => some (.fn f cap)
    | _ => none, fun h r => by simp only [opV, ho]; (repeat' split) <;> first | rfl | simp_all [resOf]⟩
  | binOp op t x y u => exact ⟨match evV tm x, evV tm y with
    | some a, some b => binV P op t a b
    | _, _ => none, fun h r => by simp only [opV, ho]; (repeat' split) <;> first | rfl | simp_all [resOf]⟩
  | unOp op t x => exact ⟨match evV tm x with
    | some a => unV op a
    | none => none, fun h r => by simp only [opV, ho]; (repeat' split) <;> first | rfl | simp_all [resOf]⟩
  | convert src dst x => exact (hn13 _ _ _ ho).elim
  | makeFunc fn first cap =>
    cases fn with
    | func f => exact ⟨match first.toList, evArgs tm cap.toList with
      | [], some vs => some (.fn f vs)
      | [x], some [] => (match evV tm x with
        | some v => some (.fnb f [v])
        | none => none)
      | _, _ => none, fun h r => by simp only [opV, ho]; (repeat' split) <;> first | rfl | simp_all [resOf]⟩
    | _ => exact ⟨none, fun h r => by simp only [opV, ho]; rfl⟩
  | slice t x lo hi mx => exact ⟨match evV tm x, evOpt tm lo, evOpt tm hi, evOpt tm mx with
    | some v, some l, some hh, some m => sliceV P t v l hh m
    | _, _, _, _ => none, fun h r => by
      simp only [opV, ho]
      cases evV tm x <;> cases evOpt tm lo <;> cases evOpt tm hi <;> cases evOpt tm mx <;> rfl⟩
  | fieldAddr s x f => exact ⟨match evV tm x, fieldOf P s f with
    | some (.ptr o off), some (fo, _) => some (.ptr o (off + fo))
    | some (.ep c off), some (fo, _) => some (.ep c (off + fo))
    | _, _ => none, fun h r => by
      simp only [opV, ho]
      cases evV tm x with
      | none => rfl
      | some v => cases fieldOf P s f <;> cases v <;> rfl⟩
  | field s x f => exact ⟨match evV tm x, fieldOf P s f with
    | some (.agg cs), some (fo, t) => (match knownT P t with
      | true => partV P t cs fo
      | false => none)
    | _, _ => none, fun h r => by
      simp only [opV, ho]; (repeat' split) <;> first | rfl | simp_all [resOf]⟩
  | indexAddr t x i => exact ⟨match evV tm x, evV tm i with
    | some a, some b => indexAtV P t a b
    | _, _ => none, fun h r => by simp only [opV, ho]; (repeat' split) <;> first | rfl | simp_all [resOf]⟩
  | index t x i => exact ⟨match evV tm x, evV tm i with
    | some a, some b => indexV P t a b
    | _, _ => none, fun h r => by simp only [opV, ho]; (repeat' split) <;> first | rfl | simp_all [resOf]⟩
  | extract x i => exact ⟨match evV tm x with
    | some (.tup vs) => vs[i]?
    | _ => none, fun h r => by simp only [opV, ho]; (repeat' split) <;> first | rfl | simp_all [resOf]⟩
  | _ => exact ⟨none, fun h r => by simp only [opV, ho]; rfl⟩
set_option maxHeartbeats 2000000 in
theorem opL_run {tm : List V} {r : Nat} {o : Oper} {h : List Ho} {x : Res} (hx : runL h r (opL P (M o) tm o) = x) (hne : x ≠ .no) : opV P (M o) tm h r o = x := by
  have pr : ∀ {l : Lr} {y : Res}, runL h r (pureL y) = x → ∃ v, pureL y = .pure v ∧ x = .val v h := fun {l y} e => by
    cases y with
    | val v h0 => exact ⟨v, rfl, by rw [← e]; rfl⟩
    | call f vs => exact absurd e.symm hne
    | no => exact absurd e.symm hne
  have one : ∀ {i : Nat} {f : Ho → Option (V × List Ho)} {full : Option (V × List Ho)}, runL h r (.write i fun ob => oneH (f ob)) = x → (∀ ob, h[i]? = some ob → full = (oneH (f ob)).map fun q => (q.1, h.set i q.2)) → resH full = x := fun {i f full} hx hf => by
    simp only [runL] at hx
    cases hi : h[i]? with
    | none => rw [hi] at hx; exact absurd hx.symm hne
    | some ob =>
      rw [hi] at hx
      rw [hf ob hi]
      simp only [Option.bind_some] at hx
      cases hq : oneH (f ob) with
      | none => rw [hq] at hx; exact absurd hx.symm hne
      | some q => rw [hq] at hx; exact hx
  unfold opL at hx
  split at hx
  · rename_i e ho
    unfold opV; simp only [ho]
    split at hx
    · rename_i cs hz; simp only [hz]; exact hx
    · exact absurd hx.symm hne
  · rename_i e y ho
    unfold opV; simp only [ho]
    split at hx
    · rename_i v hv
      simp only [hv]
      split at hx
      · rename_i hc; simp only [if_pos hc]; exact hx
      · exact absurd hx.symm hne
    · exact absurd hx.symm hne
  · rename_i t p ho
    unfold opV; simp only [ho]
    split at hx
    · rename_i i off h1 h2
      simp only [h1, h2]
      simp only [runL] at hx
      cases hi : h[i]? with
      | none => rw [hi] at hx; exact absurd hx.symm hne
      | some ob =>
        rw [hi] at hx
        rw [load_one hi]
        simp only [Option.bind_some] at hx
        split at hx
        · rename_i v hv; rw [hv]; exact hx
        · exact absurd hx.symm hne
    · rename_i p' h1 h2 hnp
      obtain ⟨v, hv, rfl⟩ := pr (l := .no) hx
      have : loadV P h t p' = loadV P [] t p' := by
        cases p' <;> first | rfl | (rename_i o1 o2; exact (h1 _ _ rfl).elim)
      simp only [h2, hnp, this]
      exact pureL_res hv
    · exact absurd hx.symm hne
  · rename_i t p y ho
    unfold opV; simp only [ho]
    split at hx
    · rename_i i off v h1 h2
      simp only [h1, h2]
      simp only [runL] at hx
      cases hi : h[i]? with
      | none => rw [hi] at hx; exact absurd hx.symm hne
      | some ob =>
        rw [hi] at hx
        rw [store_one hi]
        simp only [Option.bind_some] at hx
        split at hx
        · rename_i v' o' hv
          split at hv
          · rename_i ob' hob; simp only [Option.some.injEq, Prod.mk.injEq] at hv
            obtain ⟨rfl, rfl⟩ := hv
            simp only [hob]; exact hx
          · cases hv
        · exact absurd hx.symm hne
    · exact absurd hx.symm hne
  · rename_i t ho
    unfold opV; simp only [ho]; exact hx
  · rename_i t len parts ho
    unfold opV; simp only [ho]
    split at hx
    · rename_i vs hv
      simp only [hv]
      split at hx
      · rename_i hM
        rw [if_pos hM]
        split at hx
        · rename_i g k o off n ob hb
          rw [buildH_num hb]; exact hx
        · exact absurd hx.symm hne
      · rename_i hM
        rw [if_neg hM]
        obtain ⟨v, hv, rfl⟩ := pr (l := .no) hx
        exact pureL_res hv
    · exact absurd hx.symm hne
  · rename_i t l c ho
    unfold opV; simp only [ho]
    split at hx
    · rename_i a b h1 h2
      simp only [h1, h2]
      split at hx
      · rename_i hM
        rw [if_pos hM]
        split at hx
        · rename_i g k o off n ob hb
          rw [makeH_num hb]; exact hx
        · exact absurd hx.symm hne
      · rename_i hM
        rw [if_neg hM]
        obtain ⟨v, hv, rfl⟩ := pr (l := .no) hx
        exact pureL_res hv
    · exact absurd hx.symm hne
  · rename_i t y k ok ho
    unfold opV; simp only [ho]
    split at hx
    · rename_i i b h1 h2
      simp only [h1, h2]
      simp only [runL] at hx
      cases hi : h[i]? with
      | none => rw [hi] at hx; exact absurd hx.symm hne
      | some ob =>
        rw [hi] at hx
        rw [lookup_one hi]
        simp only [Option.bind_some] at hx
        split at hx
        · rename_i v hv; rw [hv]; exact hx
        · exact absurd hx.symm hne
    · rename_i a b hnp h1 h2
      obtain ⟨v, hv, rfl⟩ := pr (l := .no) hx
      have : lookupV P h t a b ok = lookupV P [] t a b ok := by
        have : mapOf h a = mapOf [] a := by
          cases a <;> first | rfl | (exact (hnp _ rfl).elim) | (rename_i d; cases d <;> first | rfl | (rename_i y; cases y <;> first | rfl | (rename_i z; cases z <;> rfl)))
        simp only [lookupV, this]
      simp only [h1, h2, this]
      exact pureL_res hv
    · exact absurd hx.symm hne
  · rename_i t y k u ho
    unfold opV; simp only [ho]
    split at hx
    · rename_i i b c h1 h2 h3
      simp only [h1, h2, h3]
      exact one hx fun ob hi => atMap_one hi
    · exact absurd hx.symm hne
  · rename_i t y k ho
    unfold opV; simp only [ho]
    split at hx
    · rename_i i b h1 h2
      simp only [h1, h2]
      exact one hx fun ob hi => atMap_one hi
    · exact absurd hx.symm hne
  · rename_i t y s u ho
    unfold opV; simp only [ho]
    split at hx
    · rename_i i b c h1 h2 h3
      simp only [h1, h2, h3]
      exact one hx fun ob hi => entryStore_one hi
    · exact absurd hx.symm hne
  · rename_i c ho
    unfold opV; simp only [ho]
    split at hx
    · rename_i hc
      unfold callV; simp only [hc]
      split at hx
      · rename_i st xt s y h1 h2
        simp only [h1, h2]
        split at hx
        · exact absurd hx.symm hne
        rename_i hM
        rw [if_neg hM]
        split at hx
        · rename_i k es t
          split at hx
          · rename_i k' es' t' h2' hap
            simp only [runL] at hx
            split at hx
            · rename_i ht
              rw [append_own hap ht]; exact hx
            · exact absurd hx.symm hne
          · exact absurd hx.symm hne
        · rename_i hno
          split at hx
          · rename_i k' es' t' h2' hap
            rw [append_new (fun k es t e => hno k es t e) hap]; exact hx
          · exact absurd hx.symm hne
      · exact absurd hx.symm hne
    · rename_i hc
      unfold callV; simp only [hc]
      split at hx
      · rename_i dt xt g k i off n y h1 h2
        simp only [h1, h2]
        refine Eq.trans (b := resH (copyV P h dt xt (.hs g k i off n) y)) (by cases copyV P h dt xt (.hs g k i off n) y <;> rfl) ?_
        split at hx
        · rename_i g' k' j off' n'
          split at hx
          · rename_i hj
            subst hj
            exact one hx fun ob hi => copy_one hi fun k => srcH_hs hi
          · exact absurd hx.symm hne
        · rename_i hno
          exact one hx fun ob hi => copy_one hi fun k => by rw [srcH_no (h := h) (fun g k o off n e => hno g k o off n e), srcH_no (h := [ob]) (fun g k o off n e => hno g k o off n e)]
      · exact absurd hx.symm hne
    · rename_i hc
      unfold callV; simp only [hc]
      split at hx
      · rename_i t t2 i k h1 h2
        simp only [h1, h2]
        exact one hx fun ob hi => atMap_one hi
      · exact absurd hx.symm hne
    · rename_i hc
      unfold callV; simp only [hc]
      split at hx
      · rename_i t y h1 h2
        simp only [h1, h2]
        split at hx
        · rename_i i
          simp only [runL] at hx
          cases hi : h[i]? with
          | none => rw [hi] at hx; exact absurd hx.symm hne
          | some ob =>
            rw [hi] at hx
            simp only [Option.bind_some] at hx
            split at hx
            · rename_i v hv
              split at hv
              · rename_i m hm
                cases hv
                simp only [hm, hi]; exact hx
              · cases hv
            · exact absurd hx.symm hne
        · rename_i y' hnm
          obtain ⟨v, hv, rfl⟩ := pr (l := .no) hx
          cases y <;> first | exact pureL_res hv | exact (hnm _ rfl).elim
      · exact absurd hx.symm hne
    · rename_i b hnb hnc hnd hnl hc
      obtain ⟨v, hv, rfl⟩ := pr (l := .no) hx
      exact callV_pure (fun f e => by rw [hc] at e; cases e) (fun e => by rw [hc] at e; cases e; exact hnb rfl) (fun e => by rw [hc] at e; cases e; exact hnc rfl) (fun e => by rw [hc] at e; cases e; exact hnd rfl) (fun e => by rw [hc] at e; cases e; exact hnl rfl) hv
    · rename_i f hc
      unfold callV; simp only [hc]
      split at hx
      · rename_i g cap vs h1 h2; simp only [h1, h2]; exact hx
      · exact absurd hx.symm hne
    · exact absurd hx.symm hne
  · rename_i src dst y ho
    unfold opV; simp only [ho]
    split at hx
    · rename_i g k i off n h1
      simp only [h1]
      exact one hx fun ob hi => convH_one hi
    · rename_i a hno h1
      simp only [h1]
      obtain ⟨v, hv, rfl⟩ := pr (l := .no) hx
      cases a <;> first | exact pureL_res hv | exact (hno _ _ _ _ _ rfl).elim
    · exact absurd hx.symm hne
  · rename_i hn1 hn2 hn3 hn4 hn6 hn7 hn8 hn9 hn10 hn11 hn12 hn5 hn13
    obtain ⟨v, hv, rfl⟩ := pr (l := .no) hx
    obtain ⟨ov, hov⟩ := opV_free (P := P) (M := M) (tm := tm) (o := o) hn1 hn2 hn3 hn4 hn6 hn7 hn8 hn9 hn10 hn11 hn12 hn5 hn13
    rw [hov] at hv ⊢
    exact pureL_res hv
theorem evArgs_congr {tm tm' : List V} : ∀ {l : List Operand}, (∀ x ∈ l, evV tm' x = evV tm x) → evArgs tm' l = evArgs tm l
  | [], _ => rfl
  | x :: l, h => by
    rw [evArgs, evArgs, h x (List.mem_cons_self ..), evArgs_congr fun y hy => h y (List.mem_cons_of_mem _ hy)]
theorem evParts_congr {tm tm' : List V} : ∀ {l : List (Nat × Operand)}, (∀ x ∈ l.map (·.2), evV tm' x = evV tm x) → evParts tm' l = evParts tm l
  | [], _ => rfl
  | (i, x) :: l, h => by
    rw [evParts, evParts, h x (by simp), evParts_congr fun y hy => h y (by simp at hy ⊢; exact .inr hy)]
theorem evOpt_congr {tm tm' : List V} {o : Option Operand} (h : ∀ x, o = some x → evV tm' x = evV tm x) : evOpt tm' o = evOpt tm o := by
  cases o with
  | none => rfl
  | some x => simp only [evOpt, h x rfl]
theorem callV_congr {Mc : TypeId → Bool} {tm tm' : List V} {h : List Ho} {r : Nat} {c : Call} (hc : ∀ x ∈ c.operands.toList, evV tm' x = evV tm x) : callV P Mc tm' h r c = callV P Mc tm h r c := by
  have ha : evArgs tm' c.args.toList = evArgs tm c.args.toList := evArgs_congr fun x hx => hc x (by
    unfold Call.operands
    rw [Array.toList_append]
    exact List.mem_append.2 (.inr hx))
  unfold callV
  split
  · rename_i f hf
    rw [hc f (by simp [Call.operands, hf]), ha]
  all_goals first | rfl | rw [ha]
theorem opL_congr {tm tm' : List V} {o : Oper} (h : ∀ x : Operand, x ∈ o.op.operands.toList → evV tm' x = evV tm x) : opL P (M o) tm' o = opL P (M o) tm o := by
  cases ho : o.op with
  | call c =>
    have hc : ∀ x ∈ c.operands.toList, evV tm' x = evV tm x := fun x hx => h x (by rw [ho]; exact hx)
    have ha : evArgs tm' c.args.toList = evArgs tm c.args.toList := evArgs_congr fun x hx => hc x (by
      unfold Call.operands
      rw [Array.toList_append]
      exact List.mem_append.2 (.inr hx))
    simp only [opL, ho]
    split
    · rw [ha]
    · rw [ha]
    · rw [ha]
    · rw [ha]
    · rw [callV_congr hc]
    · rename_i f hf
      rw [hc f (by simp [Call.operands, hf]), ha]
    · rfl
  | alloc e => simp only [opL, ho]
  | box e x => simp only [opL, ho, h x (by simp [ho, Op.operands])]
  | load t p => simp only [opL, ho, h p (by simp [ho, Op.operands])]
  | store t p x => simp only [opL, ho, h p (by simp [ho, Op.operands]), h x (by simp [ho, Op.operands])]
  | move x => simp only [opL, opV, ho, h x (by simp [ho, Op.operands])]
  | assign x => simp only [opL, opV, ho, h x (by simp [ho, Op.operands])]
  | pick c a b => simp only [opL, opV, ho, h c (by simp [ho, Op.operands]), h a (by simp [ho, Op.operands]), h b (by simp [ho, Op.operands])]
  | build t parts =>
    have e : evParts tm' parts.toList = evParts tm parts.toList := evParts_congr fun x hx => h x (by simpa [ho, Op.operands] using hx)
    simp only [opL, opV, ho, e]
  | buildSlice t len parts =>
    have e : evParts tm' parts.toList = evParts tm parts.toList := evParts_congr fun x hx => h x (by simpa [ho, Op.operands] using hx)
    simp only [opL, opV, ho, e]
  | nilCheck x => simp only [opL, opV, ho, h x (by simp [ho, Op.operands])]
  | binOp op t x y u => simp only [opL, opV, ho, h x (by simp [ho, Op.operands]), h y (by simp [ho, Op.operands])]
  | unOp op t x => simp only [opL, opV, ho, h x (by simp [ho, Op.operands])]
  | convert src dst x => simp only [opL, opV, ho, h x (by simp [ho, Op.operands])]
  | makeFunc fn first cap =>
    have hc : evArgs tm' cap.toList = evArgs tm cap.toList := evArgs_congr fun x hx => h x (by simp [ho, Op.operands]; exact .inr (by simpa using hx))
    cases fn with
    | func f =>
      simp only [opL, opV, ho, hc]
      split
      · rfl
      · rename_i x h1 h2
        rw [h x (by simp [ho, Op.operands, ← Array.mem_toList_iff, h1])]
      · rfl
    | _ => simp only [opL, opV, ho]
  | makeSlice t l c => simp only [opL, opV, ho, h l (by simp [ho, Op.operands]), h c (by simp [ho, Op.operands])]
  | slice t x lo hi mx =>
    have e1 : evOpt tm' lo = evOpt tm lo := evOpt_congr fun y hy => h y (by subst hy; simp [ho, Op.operands])
    have e2 : evOpt tm' hi = evOpt tm hi := evOpt_congr fun y hy => h y (by subst hy; simp [ho, Op.operands])
    have e3 : evOpt tm' mx = evOpt tm mx := evOpt_congr fun y hy => h y (by subst hy; simp [ho, Op.operands])
    simp only [opL, opV, ho, h x (by simp [ho, Op.operands]), e1, e2, e3]
  | lookup t x k b => simp only [opL, ho, h x (by simp [ho, Op.operands]), h k (by simp [ho, Op.operands])]
  | mapUpdate t x k v => simp only [opL, ho, h x (by simp [ho, Op.operands]), h k (by simp [ho, Op.operands]), h v (by simp [ho, Op.operands])]
  | makeMap t r => cases r <;> simp only [opL, opV, ho]
  | mapEntry t x k => simp only [opL, ho, h x (by simp [ho, Op.operands]), h k (by simp [ho, Op.operands])]
  | entryStore t x k v => simp only [opL, ho, h x (by simp [ho, Op.operands]), h k (by simp [ho, Op.operands]), h v (by simp [ho, Op.operands])]
  | fieldAddr s x f => simp only [opL, opV, ho, h x (by simp [ho, Op.operands])]
  | field s x f => simp only [opL, opV, ho, h x (by simp [ho, Op.operands])]
  | indexAddr t x i => simp only [opL, opV, ho, h x (by simp [ho, Op.operands]), h i (by simp [ho, Op.operands])]
  | index t x i => simp only [opL, opV, ho, h x (by simp [ho, Op.operands]), h i (by simp [ho, Op.operands])]
  | extract x i => simp only [opL, opV, ho, h x (by simp [ho, Op.operands])]
  | _ => simp only [opL, opV, ho]
def frs (n m : Nat) : List Nat := (List.range m).map (n + ·)
def padY (h : List Ho) (m : Nat) : List Ho := h ++ List.replicate m .yet
def CallD (P : Program) (K : Nat → Obj → Prop) (f : FuncId) (vs : List V) (h : List Ho) (C : V → List Nat → List Ho → Nat → Prop) : Prop :=
  ∃ (ρ : List Nat) (vs' : List V) (hl hl' : List Ho) (v : V) (m : Nat), (ρ ++ frs h.length m).Nodup ∧ ρ.length = hl.length ∧ hl'.length = ρ.length + m ∧
    Sp P K f vs' hl (fun u hh => u = v ∧ hh = hl') ∧ (∀ j ∈ ρ, j < h.length) ∧
    (∀ (B i j : Nat) (o : Ho), ρ[i]? = some j → hl[i]? = some o → h[j]? = some (renO (gB (ρ ++ frs h.length m) B) o)) ∧
    (∀ (B : Nat) (F : Fr) (φ : List Pl) (w : World) (rs : List Value), DenL F φ w rs vs → DenL F φ w rs (vs'.map (renV (gB (ρ ++ frs h.length m) B)))) ∧
    C (renV (gB (ρ ++ frs h.length m) 0) v) ρ (hl'.map (renO (gB (ρ ++ frs h.length m) 0))) m
def thinW (ro : List Nat) (l : List (Nat × Ho)) : List (Nat × Ho) := l.filter fun x => !ro.contains x.1
theorem thinW_nil (l : List (Nat × Ho)) : thinW [] l = l := by simp [thinW]
theorem wrs_thin {ro : List Nat} : ∀ (l : List (Nat × Ho)) (h : List Ho), (∀ x ∈ l, x.1 ∈ ro → h[x.1]? = some x.2) → wrs h (thinW ro l) = wrs h l
  | [], h, _ => rfl
  | (i, o) :: l, h, hl => by
    by_cases hi : i ∈ ro
    · have h1 := hl (i, o) (by simp) hi
      have e : h.set i o = h := by
        refine List.ext_getElem? fun j => ?_
        rw [List.getElem?_set]
        by_cases e : i = j
        · subst e
          rw [if_pos rfl, if_pos (get_lt h1), h1]
        · rw [if_neg e]
      have e2 : thinW ro ((i, o) :: l) = thinW ro l := by simp [thinW, hi]
      rw [e2, wrs_thin l h fun x hx => hl x (by simp [hx]), wrs, e]
    · have e2 : thinW ro ((i, o) :: l) = (i, o) :: thinW ro l := by simp [thinW, hi]
      rw [e2, wrs, wrs, wrs_thin l (h.set i o) fun x hx hr => ?_]
      have hne : ¬ i = x.1 := by intro e; rw [← e] at hr; exact hi hr
      rw [List.getElem?_set, if_neg hne]
      exact hl x (by simp [hx]) hr
theorem thinW_mem {ro : List Nat} {l : List (Nat × Ho)} {i : Nat} (h : i ∈ (thinW ro l).map (·.1)) : i ∈ l.map (·.1) := by
  obtain ⟨x, hx, rfl⟩ := List.mem_map.1 h
  exact List.mem_map.2 ⟨x, (List.mem_filter.1 hx).1, rfl⟩
def CallW (P : Program) (K : Nat → Obj → Prop) (f : FuncId) (vs : List V) (h : List Ho) (C : V → List Nat → List (Nat × Ho) → Nat → Prop) : Prop :=
  Enters P f ∧ ∃ ro : List Nat, CallD P K f vs h fun v ρ os m => (∀ x ∈ (ρ ++ frs h.length m).zip os, x.1 ∈ ro → h[x.1]? = some x.2) ∧ C v (ρ ++ frs h.length m) (thinW ro ((ρ ++ frs h.length m).zip os)) m
theorem CallW.to {f : FuncId} {vs vs' : List V} {h : List Ho} {v : V} {C : V → List Nat → List (Nat × Ho) → Nat → Prop} (he : Enters P f) (hs : Sp P K f vs' [] fun u hh => u = v ∧ hh = []) (hw : Wk vs vs') (h1 : ∀ g, vs'.map (renV g) = vs') (h2 : ∀ g, renV g v = v) (hr : C v [] [] 0) : CallW P K f vs h C :=
  ⟨he, [], [], vs', [], [], v, 0, by simp [frs], rfl, rfl, hs, by simp, fun B i j o hi => by simp at hi, fun B F φ w rs hd => by rw [h1]; exact hw F φ w rs hd, fun x hx hr => by simp at hr, by rw [h2]; exact hr⟩
def stepD (P : Program) (K : Nat → Obj → Prop) (h : List Ho) (C : V → List Nat → List (Nat × Ho) → Nat → Prop) : Lr → Prop
  | .pure v => C v [] [] 0
  | .read i k => match (h[i]?).bind k with
    | some v => C v [i] [] 0
    | none => False
  | .write i k => match (h[i]?).bind k with
    | some (v, o) => C v [i] [(i, o)] 0
    | none => False
  | .new v o => C (v h.length) [h.length] [(h.length, o)] 1
  | .app t v => match h[t]? with
    | some .tail => C (v h.length) [t, h.length] [(t, .dead), (h.length, .tail)] 1
    | _ => False
  | .call f vs => CallW P K f vs h C
  | .no => False
def nextD (D : List V → List Ho → List (List Nat × List Nat) → Prop) (dst : Option Tmp) (tm : List V) (h : List Ho) (ids : List (List Nat × List Nat)) (v : V) (rd : List Nat) (wr : List (Nat × Ho)) (m : Nat) : Prop :=
  D (putV tm dst v) (wrs (padY h m) wr) ((rd, wr.map (·.1)) :: ids)
def drawV (P : Program) (M : Oper → TypeId → Bool) (K : Nat → Obj → Prop) (ops : Array Oper) (N : Sv → Prop) : List Oper → List V → List Ho → List (List Nat × List Nat) → Prop
  | [], tm, h, ids => okOrd ops ids.reverse = true ∧ N ⟨tm, h⟩
  | o :: l, tm, h, ids => brO (wantedV ops tm o)
      (stepD P K h (nextD (drawV P M K ops N l) o.dst tm h ids) (opL P (M o) tm o))
      (drawV P M K ops N l (putV tm o.dst .undef) h (([], []) :: ids))
def stepO (P : Program) (M : Oper → TypeId → Bool) (K : Nat → Obj → Prop) (ops : Array Oper) (N : Sv → Prop) (l : List Oper) (tm : List V) (h : List Ho) (ids : List (List Nat × List Nat)) (dst : Option Tmp) (r : Lr) : Prop :=
  stepD P K h (nextD (drawV P M K ops N l) dst tm h ids) r
def CallP (P : Program) (M : Oper → TypeId → Bool) (K : Nat → Obj → Prop) (ops : Array Oper) (N : Sv → Prop) (l : List Oper) (tm : List V) (h : List Ho) (ids : List (List Nat × List Nat)) (dst : Option Tmp) (f : FuncId) (vs : List V) : Prop :=
  CallW P K f vs h (nextD (drawV P M K ops N l) dst tm h ids)
def readO (P : Program) (M : Oper → TypeId → Bool) (K : Nat → Obj → Prop) (ops : Array Oper) (N : Sv → Prop) (l : List Oper) (tm : List V) (h : List Ho) (ids : List (List Nat × List Nat)) (dst : Option Tmp) (i : Nat) : Option V → Prop
  | some v => drawV P M K ops N l (putV tm dst v) h (([i], []) :: ids)
  | none => False
def writeO (P : Program) (M : Oper → TypeId → Bool) (K : Nat → Obj → Prop) (ops : Array Oper) (N : Sv → Prop) (l : List Oper) (tm : List V) (h : List Ho) (ids : List (List Nat × List Nat)) (dst : Option Tmp) (i : Nat) : Option (V × Ho) → Prop
  | some (v, o) => drawV P M K ops N l (putV tm dst v) (h.set i o) (([i], [i]) :: ids)
  | none => False
def appO (P : Program) (M : Oper → TypeId → Bool) (K : Nat → Obj → Prop) (ops : Array Oper) (N : Sv → Prop) (l : List Oper) (tm : List V) (h : List Ho) (ids : List (List Nat × List Nat)) (dst : Option Tmp) (t : Nat) (v : Nat → V) : Option Ho → Prop
  | some .tail => drawV P M K ops N l (putV tm dst (v h.length)) (((h ++ [Ho.yet]).set t .dead).set h.length .tail) (([t, h.length], [t, h.length]) :: ids)
  | _ => False
section
variable {ops : Array Oper} {N : Sv → Prop} {l : List Oper} {tm : List V} {h : List Ho} {ids : List (List Nat × List Nat)} {dst : Option Tmp} {o : Oper} {v : V} {ob : Ho} {f : FuncId} {vs : List V} {i t : Nat}
theorem drawV.here (h0 : drawV P M K ops N l tm h ids) : drawV P M K ops N l tm h ids := h0
theorem stepO.here {r : Lr} (h0 : stepO P M K ops N l tm h ids dst r) : stepO P M K ops N l tm h ids dst r := h0
theorem drawV_nil : drawV P M K ops N [] tm h ids = (okOrd ops ids.reverse = true ∧ N ⟨tm, h⟩) := rfl
def guardD (P : Program) (M : Oper → TypeId → Bool) (K : Nat → Obj → Prop) (ops : Array Oper) (N : Sv → Prop) (l : List Oper) (o : Oper) (tm : List V) (h : List Ho) (ids : List (List Nat × List Nat)) (b : Option Bool) : Prop :=
  brO b (stepO P M K ops N l tm h ids o.dst (opL P (M o) tm o)) (drawV P M K ops N l (putV tm o.dst .undef) h (([], []) :: ids))
theorem drawV_cons : drawV P M K ops N (o :: l) tm h ids = guardD P M K ops N l o tm h ids (wantedV ops tm o) := rfl
theorem guardD_true : guardD P M K ops N l o tm h ids (some true) = stepO P M K ops N l tm h ids o.dst (opL P (M o) tm o) := Br_true
theorem guardD_false : guardD P M K ops N l o tm h ids (some false) = drawV P M K ops N l (putV tm o.dst .undef) h (([], []) :: ids) := Br_false
theorem guardD.mk {b : Bool} (h1 : b = true → stepO P M K ops N l tm h ids o.dst (opL P (M o) tm o)) (h2 : b = false → drawV P M K ops N l (putV tm o.dst .undef) h (([], []) :: ids)) : guardD P M K ops N l o tm h ids (some b) := ⟨h1, h2⟩
theorem stepO_pure : stepO P M K ops N l tm h ids dst (.pure v) = drawV P M K ops N l (putV tm dst v) h (([], []) :: ids) := by
  simp [stepO, stepD, nextD, wrs, padY]
theorem stepO_read {k : Ho → Option V} : stepO P M K ops N l tm h ids dst (.read i k) = readO P M K ops N l tm h ids dst i ((h[i]?).bind k) := by
  simp only [stepO, stepD, nextD, wrs, padY, readO, List.replicate_zero, List.append_nil, List.map_nil]
  try (cases (h[i]?).bind k <;> rfl)
theorem stepO_write {k : Ho → Option (V × Ho)} : stepO P M K ops N l tm h ids dst (.write i k) = writeO P M K ops N l tm h ids dst i ((h[i]?).bind k) := by
  simp only [stepO, stepD, nextD, wrs, padY, writeO, List.replicate_zero, List.append_nil, List.map_nil, List.map_cons]
  try (cases (h[i]?).bind k <;> rfl)
theorem stepO_new {v : Nat → V} : stepO P M K ops N l tm h ids dst (.new v ob) = drawV P M K ops N l (putV tm dst (v h.length)) (h ++ [ob]) (([h.length], [h.length]) :: ids) := by
  simp only [stepO, stepD, nextD, wrs, padY, List.map_nil, List.map_cons]
  congr 1
  try simp [List.replicate]
theorem stepO_app {v : Nat → V} : stepO P M K ops N l tm h ids dst (.app t v) = appO P M K ops N l tm h ids dst t v h[t]? := by
  simp only [stepO, stepD, nextD, wrs, padY, appO, List.map_nil, List.map_cons, List.replicate]
theorem stepO_call : stepO P M K ops N l tm h ids dst (.call f vs) = CallP P M K ops N l tm h ids dst f vs := rfl
theorem stepO_no : stepO P M K ops N l tm h ids dst .no = False := rfl
theorem CallP.to {vs' : List V} (he : Enters P f) (hs : Sp P K f vs' [] fun u hh => u = v ∧ hh = []) (hw : Wk vs vs') (h1 : ∀ g, vs'.map (renV g) = vs') (h2 : ∀ g, renV g v = v) (hr : drawV P M K ops N l (putV tm dst v) h (([], []) :: ids)) : CallP P M K ops N l tm h ids dst f vs :=
  CallW.to he hs hw h1 h2 (by simpa [nextD, wrs, padY] using hr)
end
theorem wrs_len : ∀ (r : List (Nat × Ho)) (h : List Ho), (wrs h r).length = h.length
  | [], h => rfl
  | (i, o) :: r, h => by rw [wrs, wrs_len r]; simp
theorem wrs_pad : ∀ (r : List (Nat × Ho)) (h h2 : List Ho), (∀ i ∈ r.map (·.1), i < h.length) → wrs (h ++ h2) r = wrs h r ++ h2
  | [], h, h2, _ => rfl
  | (i, o) :: r, h, h2, hi => by
    have h1 : i < h.length := hi i (by simp)
    rw [wrs, wrs, List.set_append_left _ _ h1]
    exact wrs_pad r _ h2 fun j hj => by simpa using hi j (by simp at hj ⊢; exact .inr hj)
theorem wantedV_slot {ops : Array Oper} {o : Oper} {tm tm' : List V} (h : ∀ t ∈ o.looksAt ops, tm'[t]? = tm[t]?) : wantedV ops tm' o = wantedV ops tm o := by
  unfold wantedV
  cases hg : o.guard with
  | none => rfl
  | some gw =>
    obtain ⟨g, want⟩ := gw
    simp only []
    congr 1
    unfold yieldedV
    cases ht : (ops[g]?).bind (·.dst) with
    | none => rfl
    | some t =>
      have := h t (by simp [Oper.looksAt, hg, ht])
      simp only [this]
theorem ev_slot {ops : Array Oper} {o : Oper} {tm tm' : List V} (h : ∀ t ∈ o.looksAt ops, tm'[t]? = tm[t]?) : ∀ x : Operand, x ∈ o.op.operands.toList → evV tm' x = evV tm x := fun x hx => by
  cases x with
  | tmp t => exact h t (List.mem_append_left _ (List.mem_filterMap.2 ⟨.tmp t, hx, rfl⟩))
  | _ => rfl
theorem sf_off {ops : Array Oper} {o : Oper} {tm : List V} {h : List Ho} (hw : wantedV ops tm o = some false) : SF P K ops o tm h ⟨.undef, [], []⟩ := fun F φ w a tm' h' hK hi ht hT hH hY =>
  .inr ⟨wantedV_den ht (by rw [wantedV_slot hT]; exact hw), rfl, rfl⟩
theorem yet_at {F : Fr} {φ : List Pl} {w : World} {h : List Ho} (hi : Inv F φ w h) {r : Nat} (hr : h[r]? = some .yet) : φ[r]? = some .yet := by
  obtain ⟨p, hp⟩ := ofLtL (xs := φ) (i := r) (by rw [hi.len]; exact get_lt hr)
  have := hi.ok r p _ hp hr
  cases p <;> first | exact this.elim | exact hp
theorem sf_op {ops : Array Oper} {o : Oper} {tm : List V} {h : List Ho} {v : V} {rd : List Nat} {wr : List (Nat × Ho)} (hw : wantedV ops tm o = some true)
    (hrun : ∀ h' : List Ho, (∀ i ∈ rd, h'[i]? = h[i]?) → ∀ s : Nat, h'[s]? = some .yet → ∃ r : Nat, h'[r]? = some .yet ∧ runL h' r (opL P (M o) tm o) = .val v (wrs h' wr)) : SF P K ops o tm h ⟨v, rd, wr⟩ := fun F φ w a tm' h' hK hi ht hT hH hY => by
  refine .inl ⟨wantedV_den ht (by rw [wantedV_slot hT]; exact hw), ?_⟩
  obtain ⟨s, hs⟩ := hY
  obtain ⟨r, hr, hx⟩ := hrun h' hH s hs
  have hop : opV P (M o) tm' h' r o = .val v (wrs h' wr) := opL_run (by rw [opL_congr (ev_slot hT)]; exact hx) (by simp)
  exact opV_val hi (yet_at hi hr) ht hop
theorem pad_at {h : List Ho} {k i : Nat} (h1 : h.length ≤ i) (h2 : i < h.length + k) : (h ++ List.replicate k Ho.yet)[i]? = some .yet := by
  rw [List.getElem?_append_right h1, List.getElem?_replicate, if_pos (by omega)]
theorem pad_of {h : List Ho} {k i : Nat} {o : Ho} (h1 : h[i]? = some o) : (h ++ List.replicate k Ho.yet)[i]? = some o := by
  rw [List.getElem?_append_left (get_lt h1)]; exact h1
theorem setAll_wrs : ∀ (ρ : List Nat) (os h : List Ho), setAll h ρ os = wrs h (ρ.zip os)
  | [], os, h => by cases os <;> rfl
  | j :: ρ, [], h => rfl
  | j :: ρ, o :: os, h => by rw [setAll, List.zip_cons_cons, wrs, setAll_wrs ρ os]
theorem frs_mem {n m j : Nat} (h : j ∈ frs n m) : n ≤ j ∧ j < n + m := by
  obtain ⟨i, hi, rfl⟩ := List.mem_map.1 h
  have := List.mem_range.1 hi
  omega
theorem frs_len {n m : Nat} : (frs n m).length = m := by simp [frs]
theorem stepD_sf {ops : Array Oper} {o : Oper} {tm : List V} {h : List Ho} {C : V → List Nat → List (Nat × Ho) → Nat → Prop} (hw : wantedV ops tm o = some true) (hs : stepD P K h C (opL P (M o) tm o)) :
    ∃ v rd wr m, C v rd wr m ∧ (∀ i ∈ wr.map (·.1), i ∈ rd ∧ i < h.length + m) ∧ ∀ k, m < k → SF P K ops o tm (h ++ List.replicate k .yet) ⟨v, rd, wr⟩ := by
  cases hl : opL P (M o) tm o with
  | pure v =>
    rw [hl] at hs
    refine ⟨v, [], [], 0, hs, by simp, fun k hk => sf_op (M := M) hw fun h' _ s hy => ⟨s, hy, by rw [hl]; rfl⟩⟩
  | read i f =>
    rw [hl] at hs
    simp only [stepD] at hs
    split at hs
    · rename_i v hv
      refine ⟨v, [i], [], 0, hs, by simp, fun k hk => sf_op (M := M) hw fun h' hh s hy => ⟨s, hy, ?_⟩⟩
      obtain ⟨ob, ho, hf⟩ := Option.bind_eq_some_iff.1 hv
      have := hh i (by simp)
      rw [pad_of ho] at this
      simp only [hl, runL, this, Option.bind_some, hf]
      rfl
    · exact hs.elim
  | write i f =>
    rw [hl] at hs
    simp only [stepD] at hs
    split at hs
    · rename_i v ob' hv
      obtain ⟨ob, ho, hf⟩ := Option.bind_eq_some_iff.1 hv
      refine ⟨v, [i], [(i, ob')], 0, hs, by have := get_lt ho; simpa using this, fun k hk => sf_op (M := M) hw fun h' hh s hy => ⟨s, hy, ?_⟩⟩
      have := hh i (by simp)
      rw [pad_of ho] at this
      simp only [hl, runL, this, Option.bind_some, hf]
      rfl
    · exact hs.elim
  | new v ob =>
    rw [hl] at hs
    refine ⟨v h.length, [h.length], [(h.length, ob)], 1, hs, by simp, fun k hk => sf_op (M := M) hw fun h' hh s hy => ⟨h.length, ?_, by rw [hl]; rfl⟩⟩
    rw [hh _ (by simp), pad_at (Nat.le_refl _) (by omega)]
  | app t v =>
    rw [hl] at hs
    simp only [stepD] at hs
    split at hs
    · rename_i ht
      refine ⟨v h.length, [t, h.length], [(t, .dead), (h.length, .tail)], 1, hs, ?_, fun k hk => sf_op (M := M) hw fun h' hh s hy => ⟨h.length, ?_, ?_⟩⟩
      · have := get_lt ht
        simp; omega
      · rw [hh _ (by simp), pad_at (Nat.le_refl _) (by omega)]
      · have := hh t (by simp)
        rw [pad_of ht] at this
        simp only [hl, runL, this]
        rfl
    · exact hs.elim
  | call f vs =>
    rw [hl] at hs
    obtain ⟨hen, ro, ρ, vs', hll, hl', v, m, hn, hlen, hc', hsp, hb, hpick, hv, hro, hC⟩ := hs
    refine ⟨_, _, _, m, hC, fun i hi => ?_, fun k hk => ?_⟩
    · replace hi := thinW_mem hi
      obtain ⟨x, hx, rfl⟩ := List.mem_map.1 hi
      have hm := (List.of_mem_zip (show (x.1, x.2) ∈ _ from hx)).1
      refine ⟨hm, ?_⟩
      rcases List.mem_append.1 hm with h1 | h1
      · have := hb _ h1; omega
      · exact (frs_mem h1).2
    · intro F φ w a tm' h' hK hi ht hT hH hY
      refine .inl ⟨wantedV_den ht (by rw [wantedV_slot hT]; exact hw), ?_⟩
      have hop : opV P (M o) tm' h' 0 o = .call f vs := opL_run (by rw [opL_congr (ev_slot hT), hl]; rfl) (by simp)
      obtain ⟨args, hrun, hd⟩ := opV_call ht hop hen
      rw [hrun]
      have hcnt : (ρ ++ frs h.length m).length = ρ.length + m := by simp [frs_len]
      have hb' : ∀ j ∈ ρ, j < h'.length := fun j hj => by
        have h1 := hb j hj
        have h2 : (h ++ List.replicate k Ho.yet)[j]? = some h[j] := by rw [List.getElem?_append_left h1]; exact List.getElem?_eq_getElem _
        have := hH j (List.mem_append.2 (.inl hj))
        exact get_lt (this.trans h2)
      have hfr := Sp.frameR (P := P) (K := K) (f := f) (vs := vs) (h := h') (N := fun u hh => u = renV (gB (ρ ++ frs h.length m) 0) v ∧ hh = wrs h' ((ρ ++ frs h.length m).zip (hl'.map (renO (gB (ρ ++ frs h.length m) 0))))) hsp ρ (frs h.length m) hn hlen
        (fun j hj => by
          obtain ⟨h1, h2⟩ := frs_mem hj
          rw [hH j (List.mem_append.2 (.inr hj)), pad_at h1 (by omega)])
        (fun u hh ⟨_, e⟩ => by rw [e, hc', hcnt])
        (fun B i j ob h1 h2 => by
          have h3 := hpick B i j ob h1 h2
          rw [hH j (List.mem_append.2 (.inl (List.mem_of_getElem? h1)))]
          exact pad_of h3)
        hb' hv (fun u hh ⟨e1, e2⟩ => by
          rw [e1, e2, setAll_wrs]
          exact ⟨rfl, rfl⟩)
      refine (hfr F φ w args hK hi hd).mono ?_
      rintro e w' ⟨u, φ', v', hh, rfl, h1, h2, h3, rfl, rfl⟩
      have e3 := wrs_thin (ro := ro) ((ρ ++ frs h.length m).zip (hl'.map (renO (gB (ρ ++ frs h.length m) 0)))) h' fun x hx hr => by
        rw [hH x.1 (List.of_mem_zip (show (x.1, x.2) ∈ _ from hx)).1]
        exact pad_of (hro x hx hr)
      refine ⟨u, φ', rfl, h1, ?_, h3⟩
      show Inv F φ' w' (wrs h' (thinW ro _))
      rw [e3]
      exact h2
  | no => rw [hl] at hs; exact hs.elim
theorem drawV_ch {ops : Array Oper} {N : Sv → Prop} : ∀ (l : List Oper) (tm : List V) (h : List Ho) (ids : List (List Nat × List Nat)), drawV P M K ops N l tm h ids →
    ∃ (rs : List Rc) (tm' : List V) (h' : List Ho) (M : Nat), N ⟨tm', h'⟩ ∧ okOrd ops (ids.reverse ++ rs.map fun rc => (rc.rd, rc.wr.map (·.1))) = true ∧ h'.length = h.length + M ∧ (∀ rc ∈ rs, ∀ i ∈ rc.wr.map (·.1), i < h.length + M) ∧
      ∀ k, M < k → Ch P K ops l tm (h ++ List.replicate k .yet) rs tm' (h' ++ List.replicate (k - M) .yet)
  | [], tm, h, ids, hd => ⟨[], tm, h, 0, hd.2, by simpa using hd.1, rfl, by simp, fun k _ => .nil⟩
  | o :: l, tm, h, ids, hd => by
    unfold drawV brO at hd
    split at hd
    case h_2 => exact hd.elim
    rename_i b hw
    obtain ⟨hA, hB⟩ := hd
    cases b with
    | true =>
      obtain ⟨v, rd, wr, m, hC, hwr, hsf⟩ := stepD_sf hw (hA rfl)
      obtain ⟨rs, tm', h', M, hN, hord, hlen, hlt, hch⟩ := drawV_ch l _ _ _ hC
      have hpl : (wrs (padY h m) wr).length = h.length + m := by rw [wrs_len]; simp [padY]
      rw [hpl] at hlen hlt
      refine ⟨⟨v, rd, wr⟩ :: rs, tm', h', m + M, hN, by simpa using hord, by omega, fun rc hrc i hi => ?_, fun k hk => ?_⟩
      · rcases List.mem_cons.1 hrc with rfl | hrc
        · have := (hwr i hi).2; omega
        · have := hlt rc hrc i hi; omega
      · refine .cons (hsf k (by omega)) (fun i hi => (hwr i hi).1) ?_
        have e : h ++ List.replicate k Ho.yet = padY h m ++ List.replicate (k - m) .yet := by
          unfold padY
          rw [List.append_assoc, List.replicate_append_replicate, show m + (k - m) = k by omega]
        rw [e, wrs_pad _ _ _ fun i hi => by have := (hwr i hi).2; simpa [padY] using this]
        have := hch (k - m) (by omega)
        rw [show k - m - M = k - (m + M) by omega] at this
        exact this
    | false =>
      obtain ⟨rs, tm', h', M, hN, hord, hlen, hlt, hch⟩ := drawV_ch l _ _ _ (hB rfl)
      refine ⟨⟨.undef, [], []⟩ :: rs, tm', h', M, hN, by simpa using hord, hlen, fun rc hrc i hi => ?_, fun k hk => ?_⟩
      · rcases List.mem_cons.1 hrc with rfl | hrc
        · simp at hi
        · exact hlt rc hrc i hi
      · exact .cons (sf_off hw) (by simp) (hch k hk)
theorem Inv.pad {φ : List Pl} {w : World} {h : List Ho} (hi : Inv F φ w h) : ∀ k, Inv F (φ ++ List.replicate k .yet) w (h ++ List.replicate k .yet) ∧ Ext φ w (φ ++ List.replicate k .yet) w
  | 0 => by simp; exact ⟨hi, .refl φ w⟩
  | k + 1 => by
    obtain ⟨h1, h2⟩ := hi.pad k
    have e1 : φ ++ List.replicate (k + 1) Pl.yet = (φ ++ List.replicate k .yet) ++ [.yet] := by rw [List.append_assoc, List.replicate_succ']
    have e2 : h ++ List.replicate (k + 1) Ho.yet = (h ++ List.replicate k .yet) ++ [.yet] := by rw [List.append_assoc, List.replicate_succ']
    rw [e1, e2]
    exact ⟨h1.reserve, h2.trans hi (.reserve _ w)⟩
theorem left_le : ∀ (n : Nat) (l : Array Bool), left n l ≤ n
  | 0, l => Nat.le_refl _
  | n + 1, l => by unfold left; have := left_le n l; split <;> omega
theorem WPV.draw {id : Nat} {ops : Array Oper} {Q : Exit → Sv → Prop} {st : Sv} (hm : P.follows .mixedOrders = true) (hR : okR ops = true) (h : drawV P M K ops (Q .normal) ops.toList st.tm st.h []) : WPV P K n0 (.region id ops true) Q st := by
  intro F φ0 w0 h0 hK hn0 hi0 a w hr
  obtain ⟨φ, he, hi, ht, hdf⟩ := hr
  obtain ⟨rs, tm', h', M, hN, hord, hlen, hlt, hch⟩ := drawV_ch _ _ _ _ h
  have hch := hch (M + 1) (by omega)
  rw [show M + 1 - M = 1 by omega] at hch
  have hok := okR_spec hR
  -- the world has drawn
  generalize hw1 : ({ w with drawn := w.drawn + 1 } : World) = w1
  have hs : w.heap.size ≤ w1.heap.size := by subst hw1; exact Nat.le_refl _
  have hk : ∀ b, b < w.heap.size → w1.heap[b]? = w.heap[b]? := fun b _ => by subst hw1; rfl
  have hio : Still w w1 := by subst hw1; exact ⟨rfl, rfl, rfl⟩
  have he1 : Ext φ0 w0 φ w1 := he.trans hi0 (.more hs hk)
  have hi1 : Inv F φ w1 st.h := hi.more hs hk
  have ht1 : RelT F φ w1 a.tmps st.tm := ht.ext (.more hs hk)
  obtain ⟨hi2, hx2⟩ := hi1.pad (M + 1)
  have he2 := he1.trans hi0 hx2
  have ht2 := ht1.ext hx2
  have hrl := he1.len
  obtain ⟨a1, a2, a3, a4⟩ := Ch.at hch (tm0 := st.tm) (h0 := st.h ++ List.replicate (M + 1) .yet) (k := 0) (rp := []) rfl (fun j => by simp) rfl rfl
  simp only [List.nil_append, Nat.zero_add, Array.length_toList] at a1 a2 a3 a4
  refine wp_region_any hm ?_
  rw [hw1]
  refine draw_any (K := K) (rs := rs) (tm0 := st.tm) (h0 := st.h ++ List.replicate (M + 1) .yet) F φ0 w0 h0 hK hi0 hok a1 (fun i o rc ho hr => a4 i o rc (Nat.zero_le _) ho hr) (by simpa using hord) ⟨st.h.length + M, pad_at (by omega) (by omega), fun rc hrc hm => by have := hlt rc hrc _ hm; omega⟩ ?_ ops.size _ a w1 (left_le _ _) ?_
  · intro a' w' hr'
    rw [← a2, ← a3] at hr'
    obtain ⟨φ', he', hi', ht', hd'⟩ := hr'
    have hl' : φ0.length + 1 ≤ φ'.length := by
      have := hi'.len
      have h2 := hi.len
      simp [List.replicate_one] at this
      omega
    obtain ⟨φ2, h1, h2, h3⟩ := trim_all he' hl' hi'
    have e : trimY (h' ++ List.replicate 1 Ho.yet) = h' := by
      rcases trimY_cases (h' ++ List.replicate 1 Ho.yet) with e | e
      · exfalso
        have : ∀ l : List Ho, trimY (l ++ [.yet]) = l := fun l => by
          induction l with
          | nil => rfl
          | cons o l ih => cases l <;> simp_all [trimY]
        have h4 := this h'
        rw [List.replicate_one] at e
        rw [h4] at e
        have := congrArg List.length e
        simp at this
      · rw [List.replicate_one] at e ⊢
        exact (List.append_cancel_right e).symm
    rw [e] at h2
    exact ⟨rfl, ⟨tm', h'⟩, ⟨φ2, h1, h2, ⟨ht'.1, fun t r v hr hv => h3 (ht'.2 t r v hr hv)⟩, hd'⟩, hN⟩
  · have hno : ∀ j, (Array.replicate ops.size false).getD j false = false := by
      intro j
      simp only [Array.getD_eq_getD_getElem?, Array.getElem?_replicate]
      split <;> rfl
    have hf : (fun j => (Array.replicate ops.size false).getD j false) = fun _ => false := funext hno
    have t0 : ∀ n, tmS ops rs st.tm (fun _ => false) n = st.tm := fun n => by
      induction n with
      | zero => rfl
      | succ n ih => exact ih
    have h00 : ∀ n, hS rs (st.h ++ List.replicate (M + 1) .yet) (fun _ => false) n = st.h ++ List.replicate (M + 1) .yet := fun n => by
      induction n with
      | zero => rfl
      | succ n ih => exact ih
    refine ⟨by simp, fun j o _ hl => (by rw [hno] at hl; cases hl), hdf, _, he2, ?_, ?_⟩
    · rw [hf, h00]; exact hi2
    · rw [hf, t0]; exact ht2
theorem WPV.drawK {id : Nat} {ops : Array Oper} {Q : Exit → Sv → Prop} {st : Sv} (hm : P.follows .mixedOrders = true) (hR : okR ops = true) (h : ∀ N : Sv → Prop, (∀ st, Q .normal st → N st) → drawV P M K ops N ops.toList st.tm st.h []) : WPV P K n0 (.region id ops true) Q st :=
  .draw hm hR (h _ fun _ h => h)
end
end Go.Proofs.YtgfnpcmehnjopaaGreatDoor
end
section
namespace Go.Proofs.YtgfnpcmehnjopaaGreatDoor
section
open Go Go.RowKit
set_option linter.unusedVariables false
set_option linter.unusedSimpArgs false
variable {F : Fr} {P : Program} {M : Oper → TypeId → Bool} {K : Nat → Obj → Prop} {n0 : Nat}
theorem loopV {x : Code} {Q : Exit → Sv → Prop} {st : Sv} (h : WPV P K n0 x (thenV (WPV P K n0 (.loop x) Q) Q) st) : WPV P K n0 (.loop x) Q st := .loop h
end
section
section
open Go Go.RowKit
set_option linter.unusedVariables false
set_option linter.unusedSimpArgs false
variable {F : Fr} {P : Program} {M : Oper → TypeId → Bool} {K : Nat → Obj → Prop} {n0 : Nat}
def noM : Oper → TypeId → Bool := fun _ _ => false
def inM (l : List TypeId) : Oper → TypeId → Bool := fun _ t => l.any fun x => x == t
theorem noM_eq (o : Oper) (t : TypeId) : noM o t = false := rfl
theorem inM_nil (o : Oper) (t : TypeId) : inM [] o t = false := rfl
theorem inM_cons (x : TypeId) (l : List TypeId) (o : Oper) (t : TypeId) : inM (x :: l) o t = ((x == t) || inM l o t) := by simp [inM]
def Desc (K : Nat → Obj → Prop) (n0 : Nat) (st st' : Sv) : Prop :=
  ∀ (F : Fr) (φ0 : List Pl) (w0 : World) (h0 : List Ho), F.known = K → h0.length = n0 → Inv F φ0 w0 h0 → ∀ a w, RelA F φ0 w0 st a w → RelA F φ0 w0 st' a w
theorem Desc.refl {st : Sv} : Desc K n0 st st := fun _ _ _ _ _ _ _ _ _ h => h
theorem Desc.trans {st st' st'' : Sv} (h : Desc K n0 st st') (h' : Desc K n0 st' st'') : Desc K n0 st st'' := fun F φ0 w0 h0 hK hn hi a w hr => h' F φ0 w0 h0 hK hn hi a w (h F φ0 w0 h0 hK hn hi a w hr)
theorem WPV.desc {c : Code} {Q : Exit → Sv → Prop} {st st' : Sv} (hd : Desc K n0 st st') (h : WPV P K n0 c Q st') : WPV P K n0 c Q st :=
  fun F φ0 w0 h0 hK hn hi a w hr => h F φ0 w0 h0 hK hn hi a w (hd F φ0 w0 h0 hK hn hi a w hr)
theorem Sp.of_bodyD {f : FuncId} {fn : Func} {c : Code} {vs : List V} {h : List Ho} {R : V → List Ho → Prop} (hf : P.funcs[f]? = some fn) (hb : fn.body = some c)
    (hw : ∀ Q : Exit → Sv → Prop, (∀ st st' v, Desc K h.length st st' → resultV P st' fn.results.toList = some v → R v st'.h → Q .normal st ∧ Q .ret st) → WPV P K h.length c Q ⟨vs ++ List.replicate (fn.ntmps - vs.length) .undef, h⟩) : Sp P K f vs h R := by
  have h0 : Sp P K f vs h R := by
    refine Sp.of_body (R := R) hf hb fun Q hQ => ?_
    intro F φ0 w0 hh hK hn hi a w hr
    have := hw (fun e st => ∀ F φ0 w0 h0, F.known = K → h0.length = h.length → Inv F φ0 w0 h0 → ∀ a w, RelA F φ0 w0 st a w → ∃ st', RelA F φ0 w0 st' a w ∧ Q e st') (fun st st' v hd h1 h2 =>
      ⟨fun F φ0 w0 h0 hK hn hi a w hr => ⟨st', hd F φ0 w0 h0 hK hn hi a w hr, (hQ st' v h1 h2).1⟩, fun F φ0 w0 h0 hK hn hi a w hr => ⟨st', hd F φ0 w0 h0 hK hn hi a w hr, (hQ st' v h1 h2).2⟩⟩) F φ0 w0 hh hK hn hi a w hr
    refine wp_mono this fun e a w ⟨ho, st, h1, h2⟩ => ?_
    obtain ⟨st', h3, h4⟩ := h2 F φ0 w0 hh hK hn hi a w h1
    exact ⟨ho, st', h3, h4⟩
  exact h0
theorem Wk.any {v : V} {vs vs' : List V} (h : Wk vs vs') : Wk (v :: vs) (.any :: vs') := fun F φ w rs hd => by
  cases hd with
  | cons h1 h2 => exact .cons .any (h F φ w _ h2)
theorem Wk.trans {vs vs' vs'' : List V} (h : Wk vs vs') (h' : Wk vs' vs'') : Wk vs vs'' := fun F φ w rs hd => h' F φ w rs (h F φ w rs hd)
theorem Wk.agg {cs cs' vs vs' : List V} (h0 : Wk cs cs') (h : Wk vs vs') : Wk (.agg cs :: vs) (.agg cs' :: vs') := fun F φ w rs hd => by
  cases hd with
  | cons h1 h2 =>
    obtain ⟨us, rfl, hs, ho, hg⟩ := h1.aggInv
    have := h0 F φ w us.toList (.of_get (by simpa using hs) fun i r v hr hv => hg i r v (by simpa using hr) hv)
    exact .cons (.agg (by simpa using this.length) ho fun i r v hr hv => this.get i r v (by simpa using hr) hv) (h F φ w _ h2)
inductive WkH : List Ho → List Ho → Prop
  | nil : WkH [] []
  | same {o : Ho} {h h' : List Ho} (hs : WkH h h') : WkH (o :: h) (o :: h')
  | cells {cs cs' : List V} {h h' : List Ho} (hc : Wk cs cs') (hs : WkH h h') : WkH (.cells cs :: h) (.cells cs' :: h')
theorem WkH.len {h h' : List Ho} (hw : WkH h h') : h.length = h'.length := by
  induction hw with
  | nil => rfl
  | same _ ih => simp [ih]
  | cells _ _ ih => simp [ih]
theorem Wk.len {cs cs' : List V} (h : Wk cs cs') (F : Fr) (φ : List Pl) (w : World) {rs : List Value} (hd : DenL F φ w rs cs) : cs'.length = cs.length := by
  rw [← hd.length, (h F φ w rs hd).length]
theorem WkH.ok {h h' : List Ho} (hw : WkH h h') : ∀ (i : Nat) (o' : Ho), h'[i]? = some o' → ∃ o, h[i]? = some o ∧ ∀ (F : Fr) (φ : List Pl) (w : World) (p : Pl), ObOk F φ w p o → ObOk F φ w p o' := by
  induction hw with
  | nil => intro i o' h; simp at h
  | @same o _ _ _ ih =>
    intro i o' hi
    cases i with
    | zero => simp at hi; subst hi; exact ⟨_, rfl, fun _ _ _ _ h => h⟩
    | succ i => simpa using ih i o' (by simpa using hi)
  | @cells cs cs' _ _ hc _ ih =>
    intro i o' hi
    cases i with
    | succ i => simpa using ih i o' (by simpa using hi)
    | zero =>
      simp at hi; subst hi
      refine ⟨_, rfl, fun F φ w p h => ?_⟩
      cases p <;> simp only [ObOk] at h ⊢
      · obtain ⟨arr, a, z, b, c⟩ := h
        have hd : DenL F φ w (arr.toList.take cs.length) cs := .of_get (by simp; omega) fun i r v hr hv => by
          obtain ⟨u, h1, _, h3⟩ := c i v hv
          rw [List.getElem?_take, if_pos (get_lt hv), Array.getElem?_toList, h1] at hr
          cases hr; exact h3
        have hd' := hc F φ w _ hd
        have hl := hc.len F φ w hd
        refine ⟨arr, a, z, by omega, fun j v hv => ?_⟩
        obtain ⟨x, hx⟩ := ofLtL (xs := cs) (i := j) (by rw [← hl]; exact get_lt hv)
        obtain ⟨u, h1, h2, _⟩ := c j x hx
        refine ⟨u, h1, h2, hd'.get j u v ?_ hv⟩
        rw [List.getElem?_take, if_pos (get_lt hx), Array.getElem?_toList]; exact h1
      · subst h
        have hl := hc.len F φ w (rs := []) .nil
        exact List.eq_nil_of_length_eq_zero (by simpa using hl)
theorem Desc.weak {tm tm' : List V} {h h' : List Ho} (ht : Wk tm tm') (hh : WkH h h') : Desc K n0 ⟨tm, h⟩ ⟨tm', h'⟩ := by
  intro F φ0 w0 h0 hK hn hi0 a w ⟨φ, he, hi, htm, hdf⟩
  refine ⟨φ, he, ⟨by rw [hi.len]; exact hh.len, fun i p o hp ho => ?_, hi.apart, hi.frB, hi.frO, hi.frK⟩, ?_, hdf⟩
  · obtain ⟨o0, h1, h2⟩ := hh.ok i o ho
    exact h2 F φ w p (hi.ok i p o0 hp h1)
  · have hd : DenL F φ w a.tmps.toList tm := .of_get (by simpa using htm.1) fun i r v hr hv => htm.2 i r v (by simpa using hr) hv
    have := ht F φ w _ hd
    exact ⟨by have := this.length; simpa using this, fun t r v hr hv => this.get t r v (by simpa using hr) hv⟩
mutual
def mvV (f : Nat → Option Nat) : V → V
  | .d x => .d x
  | .agg cs => .agg (mvL f cs)
  | .tup cs => .tup (mvL f cs)
  | .own k es t => match f t with
    | some i => .own k es i
    | none => .d (.sl k es)
  | .full k es => .full k es
  | .ptr o off => match f o with
    | some i => .ptr i off
    | none => .any
  | .ep c off => .ep c off
  | .hs g k o off n => match f o with
    | some i => .hs g k i off n
    | none => .any
  | .mp o => match f o with
    | some i => .mp i
    | none => .any
  | .fn g cs => .fn g (mvL f cs)
  | .fnb g cs => .fnb g (mvL f cs)
  | .any => .any
  | .ub => .ub
def mvL (f : Nat → Option Nat) : List V → List V
  | [] => []
  | v :: vs => mvV f v :: mvL f vs
end
theorem mvL_map (f : Nat → Option Nat) : ∀ l : List V, mvL f l = l.map (mvV f)
  | [] => by simp [mvL]
  | v :: vs => by simp [mvL, mvL_map f vs]
theorem mvL_get (f : Nat → Option Nat) (l : List V) (i : Nat) : (mvL f l)[i]? = (l[i]?).map (mvV f) := by rw [mvL_map, List.getElem?_map]
theorem mvL_len (f : Nat → Option Nat) (l : List V) : (mvL f l).length = l.length := by rw [mvL_map, List.length_map]
def mvO (f : Nat → Option Nat) : Ho → Ho
  | .cells cs => .cells (mvL f cs)
  | .map m => .map (m.mapV (mvV f))
  | .tail => .tail
  | .dead => .dead
  | .yet => .yet
theorem Den.mv {F : Fr} {φ φ' : List Pl} {w : World} {f : Nat → Option Nat} (hp : ∀ b o, prot F φ w b o → prot F φ' w b o) (hg : ∀ i j, f i = some j → lv φ i → lv φ' j ∧ φ'[j]? = φ[i]?) {r : Value} {v : V} (hd : Den F φ w r v) :
    Den F φ' w r (mvV f v) := by
  induction hd with
  | d h => exact .d (h.move hp)
  | agg hs h1 _ ih =>
    refine .agg (by rw [hs, mvL_len]) h1 fun i r v hr hv => ?_
    rw [mvL_get] at hv
    obtain ⟨x, hx, rfl⟩ := Option.map_eq_some_iff.1 hv
    exact ih i r x hr hx
  | tup hs _ ih =>
    refine .tup (by rw [hs, mvL_len]) fun i r v hr hv => ?_
    rw [mvL_get] at hv
    obtain ⟨x, hx, rfl⟩ := Option.map_eq_some_iff.1 hv
    exact ih i r x hr hx
  | own ht h hn hpl hf ho =>
    simp only [mvV]
    split
    · rename_i i hi
      obtain ⟨h1, h2⟩ := hg _ _ hi ht
      exact .own h1 (h.move hp) hn (by rw [h2]; exact hpl) (by rw [h2]; exact hf) (by rw [h2]; exact ho)
    · exact .d (h.move hp)
  | ownEx ht hh h hn =>
    simp only [mvV]
    split
    · rename_i i hi
      obtain ⟨h1, h2⟩ := hg _ _ hi ht
      exact .ownEx h1 (by rw [h2]; exact hh) (h.move hp) hn
    · exact .d (h.move hp)
  | full h hn => exact .full (h.move hp) hn
  | ptr ho h =>
    simp only [mvV]
    split
    · rename_i i hi
      obtain ⟨h1, h2⟩ := hg _ _ hi ho
      exact .ptr h1 (by rw [h2]; exact h)
    · exact .any
  | ep c ha hc hd => exact .ep c ha (fun j hj => ⟨hp _ _ (hc j hj).1, (hc j hj).2⟩) fun j x hx => (hd j x hx).move hp
  | hs ho h hcap hf =>
    simp only [mvV]
    split
    · rename_i i hi
      obtain ⟨h1, h2⟩ := hg _ _ hi ho
      exact .hs h1 (by rw [h2]; exact h) hcap (by rw [h2]; exact hf)
    · exact .any
  | hsE ho ha hcap hsp =>
    simp only [mvV]
    split
    · rename_i i hi
      exact .hsE (hg _ _ hi ho).1 ha hcap hsp
    · exact .any
  | hsN ho h =>
    simp only [mvV]
    split
    · rename_i i hi
      obtain ⟨h1, h2⟩ := hg _ _ hi ho
      exact .hsN h1 (by rw [h2]; exact h)
    · exact .any
  | any => exact .any
  | ub => exact .ub
  | mp ho h =>
    simp only [mvV]
    split
    · rename_i i hi
      obtain ⟨h1, h2⟩ := hg _ _ hi ho
      exact .mp h1 (by rw [h2]; exact h)
    · exact .any
  | fn hs _ ih =>
    refine .fn (by rw [hs, mvL_len]) fun i r v hr hv => ?_
    rw [mvL_get] at hv
    obtain ⟨x, hx, rfl⟩ := Option.map_eq_some_iff.1 hv
    exact ih i r x hr hx
  | fnb hs _ ih =>
    refine .fnb (by rw [hs, mvL_len]) fun i r v hr hv => ?_
    rw [mvL_get] at hv
    obtain ⟨x, hx, rfl⟩ := Option.map_eq_some_iff.1 hv
    exact ih i r x hr hx
def posOf : List (Option Nat) → Nat → Nat → Option Nat
  | [], _, _ => none
  | some j' :: l, i, j => if j' = j then some i else posOf l (i + 1) j
  | none :: l, i, j => posOf l (i + 1) j
theorem posOf_get : ∀ (σ : List (Option Nat)) (i j x : Nat), posOf σ i j = some x → i ≤ x ∧ σ[x - i]? = some (some j)
  | [], i, j, x, h => by simp [posOf] at h
  | some j' :: l, i, j, x, h => by
    simp only [posOf] at h
    split at h
    · rename_i e; cases h; subst e; simp
    · obtain ⟨h1, h2⟩ := posOf_get l (i + 1) j x h
      refine ⟨by omega, ?_⟩
      rw [show x - i = (x - (i + 1)) + 1 by omega]; simpa using h2
  | none :: l, i, j, x, h => by
    simp only [posOf] at h
    obtain ⟨h1, h2⟩ := posOf_get l (i + 1) j x h
    refine ⟨by omega, ?_⟩
    rw [show x - i = (x - (i + 1)) + 1 by omega]; simpa using h2
def reH (σ : List (Option Nat)) (h : List Ho) : List Ho := σ.map fun
  | some j => mvO (posOf σ 0) ((h[j]?).getD .dead)
  | none => .dead
def okRe (n0 n : Nat) (σ : List (Option Nat)) : Bool :=
  ((List.range n0).all fun i => σ[i]? == some (some i) || σ[i]? == some none) && decide (σ.filterMap id).Nodup && (σ.filterMap id).all fun j => decide (j < n)
theorem nodup_at : ∀ {σ : List (Option Nat)}, (σ.filterMap id).Nodup → ∀ {i j x : Nat}, σ[i]? = some (some x) → σ[j]? = some (some x) → i = j
  | [], _, i, j, x, h, _ => by simp at h
  | none :: l, hn, i, j, x, h1, h2 => by
    cases i with
    | zero => simp at h1
    | succ i => cases j with
      | zero => simp at h2
      | succ j => exact congrArg (· + 1) (nodup_at (σ := l) (x := x) (by simpa using hn) (by simpa using h1) (by simpa using h2))
  | some y :: l, hn, i, j, x, h1, h2 => by
    have hn' : y ∉ l.filterMap id ∧ (l.filterMap id).Nodup := by simpa using hn
    have hm : ∀ k, l[k]? = some (some y) → False := fun k hk => hn'.1 (List.mem_filterMap.2 ⟨some y, List.mem_of_getElem? hk, rfl⟩)
    cases i with
    | zero =>
      simp at h1; subst h1
      cases j with
      | zero => rfl
      | succ j => exact (hm j (by simpa using h2)).elim
    | succ i => cases j with
      | zero => simp at h2; subst h2; exact (hm i (by simpa using h1)).elim
      | succ j => exact congrArg (· + 1) (nodup_at (x := x) hn'.2 (by simpa using h1) (by simpa using h2))
theorem Desc.re {tm : List V} {h : List Ho} (σ : List (Option Nat)) (hok : okRe n0 h.length σ = true) : Desc K n0 ⟨tm, h⟩ ⟨mvL (posOf σ 0) tm, reH σ h⟩ := by
  intro F φ0 w0 h0 hK hn0 hi0 a w ⟨φ, he, hi, ht, hdf⟩
  simp only [okRe, Bool.and_eq_true, List.all_eq_true, List.mem_range, Bool.or_eq_true, decide_eq_true_eq, beq_iff_eq] at hok
  obtain ⟨⟨hpre, hnd⟩, hlt⟩ := hok
  have hjlt : ∀ i j, σ[i]? = some (some j) → j < h.length := fun i j hij => hlt j (List.mem_filterMap.2 ⟨some j, List.mem_of_getElem? hij, rfl⟩)
  let φl : List Pl := σ.map fun
    | some j => (φ[j]?).getD .dead
    | none => .dead
  have hlφ : φl.length = σ.length := by simp [φl]
  have hφl : ∀ (i j : Nat), σ[i]? = some (some j) → φl[i]? = φ[j]? := fun i j hij => by
    simp only [φl, List.getElem?_map, hij, Option.map_some]
    obtain ⟨p, hp⟩ := ofLtL (xs := φ) (i := j) (by rw [hi.len]; exact hjlt i j hij)
    simp [hp]
  have hφn : ∀ (i : Nat), σ[i]? = some none → φl[i]? = some .dead := fun i hij => by simp only [φl, List.getElem?_map, hij, Option.map_some]
  have old : ∀ (i : Nat) (p : Pl), φl[i]? = some p → p = .dead ∨ ∃ j, σ[i]? = some (some j) ∧ φ[j]? = some p := fun i p hp => by
    obtain ⟨s, hs⟩ := ofLtL (xs := σ) (i := i) (by rw [← hlφ]; exact get_lt hp)
    cases s with
    | none => rw [hφn i hs] at hp; cases hp; exact .inl rfl
    | some j => rw [hφl i j hs] at hp; exact .inr ⟨j, hs, hp⟩
  have oldb : ∀ (i : Nat) (p : Pl) (b : Nat), φl[i]? = some p → p.blk = some b → ∃ j, σ[i]? = some (some j) ∧ φ[j]? = some p := fun i p b hp hb => by
    rcases old i p hp with rfl | h
    · cases hb
    · exact h
  have pdown : ∀ b o, prot F φ w b o → prot F φl w b o := fun b o ⟨h1, h2, h3, h4⟩ =>
    ⟨h1, fun i hi' => by obtain ⟨j, _, hj⟩ := oldb i _ b hi' rfl; exact h2 j hj, fun i e hi' => by obtain ⟨j, _, hj⟩ := oldb i _ b hi' rfl; exact h3 j e hj, h4⟩
  have gmv : ∀ i j, posOf σ 0 i = some j → lv φ i → lv φl j ∧ φl[j]? = φ[i]? := fun i j hij ⟨p, hp, hne⟩ => by
    obtain ⟨_, h2⟩ := posOf_get σ 0 i j hij
    simp only [Nat.sub_zero] at h2
    have e := hφl j i h2
    exact ⟨⟨p, by rw [e]; exact hp, hne⟩, e⟩
  have h0l : φ0.length = n0 := by rw [hi0.len, hn0]
  have hle : n0 ≤ σ.length := by
    cases n0 with
    | zero => exact Nat.zero_le _
    | succ n => rcases hpre n (by omega) with h | h <;> exact get_lt h
  refine ⟨φl, ⟨he.size, by rw [hlφ]; omega, fun i hx => ?_, he.keep, he.tail, fun i b hp hlt => ?_, fun i b e' hp hlt => ?_, he.io⟩, ⟨by rw [hlφ]; simp [reH], fun i p o hp ho => ?_, fun i j p q b hp hq hb1 hb2 => ?_, hi.frB, fun i p b o hp hb1 hF => ?_, fun b x hx => ?_⟩, ?_, hdf⟩
  · have hlt : i < n0 := by
      obtain ⟨p, hp, _⟩ := hx
      have := get_lt hp; omega
    rcases hpre i hlt with h1 | h1
    · rw [hφl i i h1]; exact he.old i hx
    · exact .inr (hφn i h1)
  · obtain ⟨j, _, hj⟩ := oldb i _ b hp rfl
    exact he.objs j b hj hlt
  · obtain ⟨j, _, hj⟩ := oldb i _ b hp rfl
    exact he.tails j b e' hj hlt
  · unfold reH at ho
    rw [List.getElem?_map] at ho
    obtain ⟨s, hs, rfl⟩ := Option.map_eq_some_iff.1 ho
    cases s with
    | none => rw [hφn i hs] at hp; cases hp; trivial
    | some j =>
      rw [hφl i j hs] at hp
      obtain ⟨o, ho'⟩ := ofLtL (xs := h) (i := j) (hjlt i j hs)
      have hok := hi.ok j p o hp ho'
      simp only [ho', Option.getD_some]
      cases p <;> cases o <;> simp only [ObOk, mvO] at hok ⊢
      · obtain ⟨arr, hr, hz, hl, hd⟩ := hok
        refine ⟨arr, hr, hz, by rw [mvL_len]; exact hl, fun k v hv => ?_⟩
        rw [mvL_get] at hv
        obtain ⟨y, hy, rfl⟩ := Option.map_eq_some_iff.1 hv
        obtain ⟨u, h1, h2, h3⟩ := hd k y hy
        exact ⟨u, h1, h2, h3.mv pdown gmv⟩
      · obtain ⟨ents, clock, hr, hl, hd⟩ := hok
        refine ⟨ents, clock, hr, by simpa [GM.mapV] using hl, fun k m e hm he => ?_⟩
        simp only [GM.mapV, List.getElem?_map] at he
        obtain ⟨y, hy, rfl⟩ := Option.map_eq_some_iff.1 he
        obtain ⟨h1, h2⟩ := hd k m y hm hy
        exact ⟨h1, h2.mv pdown gmv⟩
      · exact hok
      · subst hok; rfl
  · obtain ⟨i', hr, hj⟩ := oldb i p b hp hb1
    obtain ⟨j', hr', hj'⟩ := oldb j q b hq hb2
    have := hi.apart i' j' p q b hj hj' hb1 hb2
    subst this
    exact nodup_at hnd hr hr'
  · obtain ⟨i', hr, hi'⟩ := oldb i p b hp hb1
    exact hi.frO i' p b o hi' hb1 hF
  · obtain ⟨h1, h2⟩ := hi.frK b x hx
    exact ⟨h1, fun i p hp hpb => by obtain ⟨j, _, hj⟩ := oldb i p b hp hpb; exact h2 j p hj hpb⟩
  · refine ⟨by rw [ht.1, mvL_len], fun t r v hr hv => ?_⟩
    rw [mvL_get] at hv
    obtain ⟨y, hy, rfl⟩ := Option.map_eq_some_iff.1 hv
    exact (ht.2 t r y hr hy).mv pdown gmv
theorem Desc.nilH {tm : List V} {h : List Ho} (i c k : Nat) {cs : List V} (hi0 : h[i]? = some (.cells cs)) (hc : cs[c]? = some (.sc (.slice none 0 0))) : Desc K n0 ⟨tm, h⟩ ⟨tm, (h.set i (.cells (cs.set c (.hs true k h.length 0 0)))) ++ [.cells []]⟩ := by
  intro F φ0 w0 h0 hK hn0 hi0' a w ⟨φ, he, hi, ht, hdf⟩
  have e1 := Ext.reserve φ w
  have i1 := hi.reserve
  have hr : (φ ++ [Pl.yet])[h.length]? = some .yet := by rw [← hi.len]; simp
  obtain ⟨φ', e2, i2, d2⟩ := den_nilH (k := k) i1 hr none
  have e3 := e1.trans hi e2
  have hlen : (h ++ [Ho.yet]).set h.length (.cells []) = h ++ [.cells []] := by
    rw [List.set_append_right _ _ (Nat.le_refl _)]; simp
  rw [hlen] at i2
  have hlt := get_lt hi0
  refine ⟨φ', he.trans hi0' e3, ⟨?_, fun j p o hp ho => ?_, i2.apart, i2.frB, i2.frO, i2.frK⟩, ht.ext e3, hdf⟩
  · rw [i2.len]; simp
  · by_cases hj : j = i
    · subst hj
      rw [List.getElem?_append_left (by simpa using hlt), List.getElem?_set_self hlt] at ho
      cases ho
      have hok := i2.ok j p (.cells cs) hp (by rw [List.getElem?_append_left hlt]; exact hi0)
      cases p <;> simp only [ObOk] at hok ⊢
      · obtain ⟨arr, a1, a2, a3, a4⟩ := hok
        refine ⟨arr, a1, a2, by simpa using a3, fun q v hv => ?_⟩
        rcases get_set hv with ⟨rfl, rfl, _⟩ | ⟨hne, hv⟩
        · obtain ⟨u, h1, h2, h3⟩ := a4 _ _ hc
          exact ⟨u, h1, h2, by rw [h3.sc.1]; exact d2⟩
        · exact a4 q v hv
      · subst hok; simp at hc
    · refine i2.ok j p o hp ?_
      rw [← ho]
      by_cases hl : j < h.length
      · rw [List.getElem?_append_left hl, List.getElem?_append_left (by simpa using hl), List.getElem?_set_ne (fun e => hj e.symm)]
      · rw [List.getElem?_append_right (by omega), List.getElem?_append_right (by simp; omega)]; simp
def pickH (h : List Ho) : List Nat → Option (List Ho)
  | [] => some []
  | j :: ρ => match h[j]?, pickH h ρ with
    | some o, some os => some (o :: os)
    | _, _ => none
theorem pickH_get {h : List Ho} : ∀ {ρ : List Nat} {os : List Ho}, pickH h ρ = some os → os.length = ρ.length ∧ ∀ (i j : Nat), ρ[i]? = some j → h[j]? = os[i]?
  | [], os, e => by simp only [pickH] at e; cases e; exact ⟨rfl, fun i j h => by simp at h⟩
  | x :: ρ, os, e => by
    simp only [pickH] at e
    split at e
    · rename_i o os' h1 h2
      cases e
      obtain ⟨a, b⟩ := pickH_get h2
      refine ⟨by simp [a], fun i j hi => ?_⟩
      cases i with
      | zero => simp at hi; subst hi; simpa using h1
      | succ i => simpa using b i j (by simpa using hi)
    · cases e
theorem Sp.fr {f : FuncId} {vs vs' : List V} {h hl hl' : List Ho} {v : V} (ρ : List Nat) (hs : Sp P K f vs' hl fun u hh => u = v ∧ hh = hl') (hn : ρ.Nodup) (hp : pickH h ρ = some (hl.map (renO (gOf ρ h.length)))) (hw : Wk vs (vs'.map (renV (gOf ρ h.length)))) :
    Sp P K f vs h fun u hh => u = renV (gOf ρ h.length) v ∧ hh = mergeH h ρ (hl'.map (renO (gOf ρ h.length))) := by
  obtain ⟨h1, h2⟩ := pickH_get hp
  refine hs.frame ρ hn (by simpa using h1.symm) (fun i j o hi ho => ?_) (fun j hj => ?_) (fun F φ w rs hd => hw F φ w rs hd) fun u hh ⟨e1, e2⟩ => by rw [e1, e2]; exact ⟨rfl, rfl⟩
  · rw [h2 i j hi, List.getElem?_map, ho]; rfl
  · obtain ⟨i, hi⟩ := List.mem_iff_getElem?.1 hj
    have h3 := h2 i j hi
    obtain ⟨o, ho⟩ := ofLtL (xs := hl.map (renO (gOf ρ h.length))) (i := i) (by rw [h1]; exact get_lt hi)
    rw [ho] at h3
    exact get_lt h3
section
variable {ops : Array Oper} {N : Sv → Prop} {l : List Oper} {st : Sv} {dst : Option Tmp} {v : V} {f : FuncId} {vs : List V}
theorem CallO.fr (ρ : List Nat) {vs' : List V} {hl hl' : List Ho} (he : Enters P f) (hs : Sp P K f vs' hl fun u hh => u = v ∧ hh = hl') (hn : ρ.Nodup) (hp : pickH st.h ρ = some (hl.map (renO (gOf ρ st.h.length)))) (hw : Wk vs (vs'.map (renV (gOf ρ st.h.length))))
    (hr : opsV P M K ops N l ⟨putV st.tm dst (renV (gOf ρ st.h.length) v), mergeH st.h ρ (hl'.map (renO (gOf ρ st.h.length)))⟩) : CallO P M K ops N l f vs st dst :=
  CallV.mk he (Sp.fr ρ hs hn hp hw) fun u hh ⟨e1, e2⟩ => by rw [e1, e2]; exact hr
end
end
section
open Go Go.RowKit
set_option linter.unusedVariables false
set_option linter.unusedSimpArgs false
variable {F : Fr} {P : Program} {M : Oper → TypeId → Bool} {K : Nat → Obj → Prop} {n0 : Nat}
def chunks (k n : Nat) (l : List D) : List (List D) := (List.range n).map fun i => (l.drop (i * k)).take k
theorem chunks_len (k n : Nat) (l : List D) : (chunks k n l).length = n := by simp [chunks]
theorem chunks_get {k n : Nat} {l : List D} {i : Nat} {e : List D} (h : (chunks k n l)[i]? = some e) : i < n ∧ e = (l.drop (i * k)).take k := by
  unfold chunks at h
  rw [List.getElem?_map] at h
  obtain ⟨x, hx, rfl⟩ := Option.map_eq_some_iff.1 h
  have hlt := get_lt hx
  simp only [List.length_range] at hlt
  rw [List.getElem?_range hlt] at hx
  cases hx
  exact ⟨hlt, rfl⟩
mutual
def frV (o : Nat) (ds : List D) : V → V
  | .d x => .d x
  | .agg cs => .agg (frL o ds cs)
  | .tup cs => .tup (frL o ds cs)
  | .own k es t => .own k es t
  | .full k es => .full k es
  | .ptr o' off => if o' = o then .ep ds off else .ptr o' off
  | .ep c off => .ep c off
  | .hs g k o' off n => if o' = o then (if off + n * k ≤ ds.length then .d (.sl k (chunks k n (ds.drop off))) else .any) else .hs g k o' off n
  | .mp o' => .mp o'
  | .fn g cs => .fn g (frL o ds cs)
  | .fnb g cs => .fnb g (frL o ds cs)
  | .any => .any
  | .ub => .ub
def frL (o : Nat) (ds : List D) : List V → List V
  | [] => []
  | v :: vs => frV o ds v :: frL o ds vs
end
theorem frL_map (o : Nat) (ds : List D) : ∀ l : List V, frL o ds l = l.map (frV o ds)
  | [] => by simp [frL]
  | v :: vs => by simp [frL, frL_map o ds vs]
theorem frL_get (o : Nat) (ds : List D) (l : List V) (i : Nat) : (frL o ds l)[i]? = (l[i]?).map (frV o ds) := by rw [frL_map, List.getElem?_map]
theorem frL_len (o : Nat) (ds : List D) (l : List V) : (frL o ds l).length = l.length := by rw [frL_map, List.length_map]
def frO (o : Nat) (ds : List D) : Ho → Ho
  | .cells cs => .cells (frL o ds cs)
  | .map m => .map (m.mapV (frV o ds))
  | .tail => .tail
  | .dead => .dead
  | .yet => .yet
theorem Den.fr {F : Fr} {φ : List Pl} {w : World} {h : List Ho} {o : Nat} {cs : List V} {ds : List D} (hi : Inv F φ w h) (ho : h[o]? = some (.cells cs)) (hd : toDs cs = some ds) {r : Value} {v : V} (hv : Den F φ w r v) :
    Den F (φ.set o .dead) w r (frV o ds v) := by
  have he := Ext.kill φ w o
  have hn : ds.length = cs.length := by
    have : ∀ (cs : List V) (ds : List D), toDs cs = some ds → ds.length = cs.length := fun cs => by
      induction cs with
      | nil => intro ds h; simp only [toDs] at h; cases h; rfl
      | cons v vs ih =>
        intro ds h
        unfold toDs at h
        split at h
        · rename_i x xs h1 h2; cases h; simp [ih xs h2]
        · cases h
    exact this cs ds hd
  have key : ∀ (b z : Nat), φ[o]? = some (.obj b z) → (∀ j, j < ds.length → ∃ u, cellP F (φ.set o .dead) w b j u ∧ ∀ x, ds[j]? = some x → DenD F (φ.set o .dead) w u x) := fun b z hp j hj => by
    rcases obj_cells hi ho with ⟨rfl, hf⟩ | ⟨b', z', arr, T, hp', hrow, hz, hlen, hce⟩
    · rw [hn] at hj; simp at hj
    · rw [hp] at hp'; cases hp'
      obtain ⟨_, hg⟩ := toDs_den hd hce.1
      obtain ⟨x, hx⟩ := ofLtL hj
      obtain ⟨u, hu, hdu⟩ := hg j x hx
      rw [List.getElem?_take, if_pos (by omega), Array.getElem?_toList] at hu
      refine ⟨u, ⟨⟨hi.lt hp rfl, fun i hi' => ?_, fun i e hi' => ?_, hi.frO o _ b j hp rfl⟩, (cell_of w b j u).2 ⟨arr, T, _, hrow, hu⟩⟩, fun y hy => ?_⟩
      · rcases get_set hi' with ⟨_, h, _⟩ | ⟨hne, h⟩
        · cases h
        · exact hne (hi.apart i o _ _ b h hp rfl rfl)
      · rcases get_set hi' with ⟨_, h, _⟩ | ⟨hne, h⟩
        · cases h
        · exact absurd (hi.apart i o _ _ b h hp rfl rfl) hne
      · rw [hx] at hy; cases hy; exact hdu.ext he
  have place : ∃ p, φ[o]? = some p ∧ ((∃ b z, p = .obj b z) ∨ (p = .free ∧ cs = [])) := by
    rcases obj_cells hi ho with ⟨h1, h2⟩ | ⟨b, z, _, _, h1, _⟩
    · exact ⟨_, h2, .inr ⟨rfl, h1⟩⟩
    · exact ⟨_, h1, .inl ⟨b, z, rfl⟩⟩
  -- a slice of the object's cells
  have slice : ∀ {k off n cap b : Nat}, (∀ {z : Nat} (b' : Nat), φ[o]? = some (Pl.obj b' z) → b' = b) → n ≤ cap → cap ≤ 9223372036854775807 → off + n * k ≤ ds.length →
      DenD F (φ.set o .dead) w (.slice (some ⟨b, off, none⟩) n cap) (.sl k (chunks k n (ds.drop off))) := fun {k off n cap b} hb h1 h2 h3 => by
    have hk : ∀ (i : Nat) (e : List D), (chunks k n (ds.drop off))[i]? = some e → e.length = k := fun i e he => by
      obtain ⟨hlt, rfl⟩ := chunks_get he
      have : (i + 1) * k ≤ n * k := Nat.mul_le_mul_right k hlt
      rw [Nat.add_mul] at this
      simp; omega
    obtain ⟨p, hp, ⟨b', z, rfl⟩ | ⟨rfl, rfl⟩⟩ := place
    · have := hb b' hp
      subst this
      have hkey := key b' z hp
      let f : Nat → Value := fun j => if hj : j < ds.length then (hkey j hj).choose else undef
      have hf : ∀ j, j < ds.length → cellP F (φ.set o .dead) w b' j (f j) ∧ ∀ x, ds[j]? = some x → DenD F (φ.set o .dead) w (f j) x := fun j hj => by
        have := (hkey j hj).choose_spec
        simp only [f, dif_pos hj]; exact this
      refine .sl (fun i j => f (off + i * k + j)) (chunks_len _ _ _) ⟨h1, h2⟩ hk (fun i j hi' hj => ?_) (fun i e j x he hx => ?_)
      · have : (i + 1) * k ≤ n * k := Nat.mul_le_mul_right k hi'
        rw [Nat.add_mul] at this
        exact (hf _ (by omega)).1
      · obtain ⟨hlt, rfl⟩ := chunks_get he
        have : (i + 1) * k ≤ n * k := Nat.mul_le_mul_right k hlt
        rw [Nat.add_mul] at this
        rw [List.getElem?_take] at hx
        split at hx
        · rename_i hj
          rw [List.getElem?_drop, List.getElem?_drop] at hx
          exact (hf _ (by omega)).2 x (by rw [← hx]; congr 1; omega)
        · cases hx
    · have hdl : ds.length = 0 := by simpa using hn
      have hnk : n * k = 0 := by omega
      rcases Nat.mul_eq_zero.1 hnk with rfl | rfl
      · exact .sl (fun _ _ => undef) (chunks_len _ _ _) ⟨h1, h2⟩ hk (fun i j hi' => absurd hi' (Nat.not_lt_zero _)) (fun i e j x he => absurd (chunks_get he).1 (Nat.not_lt_zero _))
      · exact .sl (fun _ _ => undef) (chunks_len _ _ _) ⟨h1, h2⟩ hk (fun i j hi' hj => absurd hj (Nat.not_lt_zero _)) (fun i e j x he hx => by
          obtain ⟨hlt, rfl⟩ := chunks_get he
          simp at hx)
  induction hv with
  | d hx => exact .d (hx.ext he)
  | agg hs h1 _ ih =>
    refine .agg (by rw [hs, frL_len]) h1 fun i r v hr hv => ?_
    rw [frL_get] at hv
    obtain ⟨x, hx, rfl⟩ := Option.map_eq_some_iff.1 hv
    exact ih i r x hr hx
  | tup hs _ ih =>
    refine .tup (by rw [hs, frL_len]) fun i r v hr hv => ?_
    rw [frL_get] at hv
    obtain ⟨x, hx, rfl⟩ := Option.map_eq_some_iff.1 hv
    exact ih i r x hr hx
  | own ht h1 h2 h3 h4 h5 => exact Den.ext he (.own ht h1 h2 h3 h4 h5)
  | ownEx ht h1 h2 h3 => exact Den.ext he (.ownEx ht h1 h2 h3)
  | full h1 h2 => exact Den.ext he (.full h1 h2)
  | @ptr o' off b hlv hb =>
    simp only [frV]
    split
    · rename_i e
      subst e
      obtain ⟨p, hp, ⟨b', z, rfl⟩ | ⟨rfl, rfl⟩⟩ := place
      · have := hb b' hp
        subst this
        have hkey := key b' z hp
        refine .ep (at_ := 0) (fun j => if hj : j < ds.length then (hkey j hj).choose else undef) (by omega) (fun j hj => ?_) (fun j x hx => ?_)
        · have := (hkey j hj).choose_spec
          simp only [dif_pos hj, Nat.zero_add]; exact this.1
        · have hj := get_lt hx
          have := (hkey j hj).choose_spec
          simp only [dif_pos hj]; exact this.2 x hx
      · have hdl : ds.length = 0 := by simpa using hn
        exact .ep (at_ := 0) (fun _ => undef) (by omega) (fun j hj => by omega) (fun j x hx => by have := get_lt hx; omega)
    · exact Den.ext he (.ptr hlv hb)
  | ep c ha hc hd' => exact Den.ext he (.ep c ha hc hd')
  | @hs g k o' off n cap b hlv hb hcap hf =>
    simp only [frV]
    split
    · rename_i e
      subst e
      split
      · rename_i hle
        exact .d (slice (fun b' hb' => (hb b' hb').1) hcap.1 hcap.2 hle)
      · exact .any
    · exact Den.ext he (.hs hlv hb hcap hf)
  | @hsE k o' off cap a hlv ha hc hsp =>
    simp only [frV]
    split
    · split
      · refine .d ?_
        have e0 : chunks k 0 (ds.drop off) = [] := rfl
        rw [e0]
        cases a with
        | none => obtain rfl := ha rfl; exact .nil
        | some a =>
          obtain ⟨b, off', sp⟩ := a
          cases sp with
          | none => exact .sl (fun _ _ => undef) rfl ⟨Nat.zero_le _, hc⟩ (fun i e he => by simp at he) (fun i j hi' => absurd hi' (Nat.not_lt_zero _)) (fun i e j x he => by simp at he)
          | some q =>
            have := hsp _ rfl; cases this
      · exact .any
    · exact Den.ext he (.hsE hlv ha hc hsp)
  | @hsN k o' off a hlv hb =>
    simp only [frV]
    split
    · split
      · exact .d .nil
      · exact .any
    · exact Den.ext he (.hsN hlv hb)
  | any => exact .any
  | ub => exact .ub
  | mp hlv hb => exact Den.ext he (.mp hlv hb)
  | fn hs _ ih =>
    refine .fn (by rw [hs, frL_len]) fun i r v hr hv => ?_
    rw [frL_get] at hv
    obtain ⟨x, hx, rfl⟩ := Option.map_eq_some_iff.1 hv
    exact ih i r x hr hx
  | fnb hs _ ih =>
    refine .fnb (by rw [hs, frL_len]) fun i r v hr hv => ?_
    rw [frL_get] at hv
    obtain ⟨x, hx, rfl⟩ := Option.map_eq_some_iff.1 hv
    exact ih i r x hr hx
theorem Desc.freeze {tm : List V} {h : List Ho} (o : Nat) {cs : List V} {ds : List D} (ho : h[o]? = some (.cells cs)) (hd : toDs cs = some ds) : Desc K n0 ⟨tm, h⟩ ⟨frL o ds tm, (h.map (frO o ds)).set o .dead⟩ := by
  intro F φ0 w0 h0 hK hn0 hi0 a w ⟨φ, he, hi, ht, hdf⟩
  have hk := hi.kill o
  refine ⟨φ.set o .dead, he.trans hi0 (.kill φ w o), ⟨by simp [hi.len], fun i p x hp hx => ?_, hk.apart, hk.frB, hk.frO, hk.frK⟩, ⟨by rw [ht.1, frL_len], fun t r v hr hv => ?_⟩, hdf⟩
  · rcases get_set hp with ⟨rfl, rfl, _⟩ | ⟨hne, hp⟩
    · rcases get_set hx with ⟨_, rfl, _⟩ | ⟨hne, _⟩
      · trivial
      · exact absurd rfl hne
    · rcases get_set hx with ⟨e, _, _⟩ | ⟨_, hx⟩
      · exact absurd e hne
      · rw [List.getElem?_map] at hx
        obtain ⟨x0, hx0, rfl⟩ := Option.map_eq_some_iff.1 hx
        have hok := hi.ok i p x0 hp hx0
        cases p <;> cases x0 <;> simp only [ObOk, frO] at hok ⊢
        · obtain ⟨arr, hr, hz, hl, hdd⟩ := hok
          refine ⟨arr, hr, hz, by rw [frL_len]; exact hl, fun k v hv => ?_⟩
          rw [frL_get] at hv
          obtain ⟨y, hy, rfl⟩ := Option.map_eq_some_iff.1 hv
          obtain ⟨u, h1, h2, h3⟩ := hdd k y hy
          exact ⟨u, h1, h2, h3.fr hi ho hd⟩
        · obtain ⟨ents, clock, hr, hl, hdd⟩ := hok
          refine ⟨ents, clock, hr, by simpa [GM.mapV] using hl, fun k m e hm he => ?_⟩
          simp only [GM.mapV, List.getElem?_map] at he
          obtain ⟨y, hy, rfl⟩ := Option.map_eq_some_iff.1 he
          obtain ⟨h1, h2⟩ := hdd k m y hm hy
          exact ⟨h1, h2.fr hi ho hd⟩
        · exact hok
        · subst hok; rfl
  · rw [frL_get] at hv
    obtain ⟨y, hy, rfl⟩ := Option.map_eq_some_iff.1 hv
    exact (ht.2 t r y hr hy).fr hi ho hd
end
section
open Go Go.RowKit
set_option linter.unusedVariables false
set_option linter.unusedSimpArgs false
variable {F : Fr} {P : Program} {M : Oper → TypeId → Bool} {K : Nat → Obj → Prop} {n0 : Nat}
theorem Desc.nilT {tm : List V} {h : List Ho} (i k : Nat) (hc : tm[i]? = some (.sc (.slice none 0 0))) : Desc K n0 ⟨tm, h⟩ ⟨tm.set i (.hs true k h.length 0 0), h ++ [.cells []]⟩ := by
  intro F φ0 w0 h0 hK hn0 hi0' a w ⟨φ, he, hi, ht, hdf⟩
  have e1 := Ext.reserve φ w
  have i1 := hi.reserve
  have hr : (φ ++ [Pl.yet])[h.length]? = some .yet := by rw [← hi.len]; simp
  obtain ⟨φ', e2, i2, d2⟩ := den_nilH (k := k) i1 hr none
  have e3 := e1.trans hi e2
  have hlen : (h ++ [Ho.yet]).set h.length (.cells []) = h ++ [.cells []] := by
    rw [List.set_append_right _ _ (Nat.le_refl _)]; simp
  rw [hlen] at i2
  have ht' := ht.ext e3
  refine ⟨φ', he.trans hi0' e3, i2, ⟨by rw [ht'.1]; simp, fun t r v hr hv => ?_⟩, hdf⟩
  rcases get_set hv with ⟨rfl, rfl, _⟩ | ⟨hne, hv⟩
  · rw [(ht'.2 t r _ hr hc).sc.1]; exact d2
  · exact ht'.2 t r v hr hv
theorem flatD_nil : flatD [] = [] := rfl
theorem flatD_cons (e : List D) (es : List (List D)) : flatD (e :: es) = e.map V.d ++ flatD es := by simp [flatD]
theorem WPV.loopA {x : Code} {Q : Exit → Sv → Prop} {α : Type} (m : α → Nat) (I : α → Sv) (J : α → Prop) (h : ∀ a, J a → (∀ a', J a' → m a' < m a → WPV P K n0 (.loop x) Q (I a')) → WPV P K n0 (.loop x) Q (I a)) (a : α) (ha : J a) : WPV P K n0 (.loop x) Q (I a) := by
  have : ∀ d a, J a → m a < d → WPV P K n0 (.loop x) Q (I a) := fun d => by
    induction d with
    | zero => exact fun a _ hd => absurd hd (Nat.not_lt_zero _)
    | succ d ih => exact fun a hJ hd => h a hJ fun a' hJ' hlt => ih a' hJ' (by omega)
  exact this _ a ha (Nat.lt_succ_self _)
theorem WkH.refl : ∀ h : List Ho, WkH h h
  | [] => .nil
  | o :: h => .same (WkH.refl h)
theorem WkH.cons {cs cs' : List V} {h h' : List Ho} (hc : Wk cs cs') (hs : WkH h h') : WkH (.cells cs :: h) (.cells cs' :: h') := .cells hc hs
theorem frs_0 (n : Nat) : frs n 0 = [] := rfl
theorem frs_1 (n : Nat) : frs n 1 = [n] := by simp [frs]
theorem frs_2 (n : Nat) : frs n 2 = [n, n + 1] := by simp [frs, List.range_succ]
theorem frs_3 (n : Nat) : frs n 3 = [n, n + 1, n + 2] := by simp [frs, List.range_succ]
theorem frs_4 (n : Nat) : frs n 4 = [n, n + 1, n + 2, n + 3] := by simp [frs, List.range_succ]
section
variable {ops : Array Oper} {N : Sv → Prop} {l : List Oper} {tm : List V} {h : List Ho} {ids : List (List Nat × List Nat)} {dst : Option Tmp} {v : V} {f : FuncId} {vs : List V}
theorem CallP.frR (ro : List Nat) (ρ : List Nat) (m : Nat) {vs' : List V} {hl hl' : List Ho} (he : Enters P f) (hs : Sp P K f vs' hl fun u hh => u = v ∧ hh = hl') (hn : decide (ρ ++ frs h.length m).Nodup = true) (hm : hl'.length = ρ.length + m)
    (hp : ∀ B, pickH h ρ = some (hl.map (renO (gB (ρ ++ frs h.length m) B)))) (hw : ∀ B, Wk vs (vs'.map (renV (gB (ρ ++ frs h.length m) B))))
    (hro : ∀ x ∈ (ρ ++ frs h.length m).zip (hl'.map (renO (gB (ρ ++ frs h.length m) 0))), x.1 ∈ ro → h[x.1]? = some x.2)
    (hr : drawV P M K ops N l (putV tm dst (renV (gB (ρ ++ frs h.length m) 0) v)) (wrs (padY h m) (thinW ro ((ρ ++ frs h.length m).zip (hl'.map (renO (gB (ρ ++ frs h.length m) 0)))))) ((ρ ++ frs h.length m, (thinW ro ((ρ ++ frs h.length m).zip (hl'.map (renO (gB (ρ ++ frs h.length m) 0))))).map (·.1)) :: ids)) :
    CallP P M K ops N l tm h ids dst f vs := by
  have h0 := pickH_get (hp 0)
  have hlen : ρ.length = hl.length := by simpa using h0.1.symm
  refine ⟨he, ro, ρ, vs', hl, hl', v, m, of_decide_eq_true hn, hlen, hm, hs, fun j hj => ?_, fun B i j o hi ho => ?_, fun B F φ w rs hd => hw B F φ w rs hd, hro, hr⟩
  · obtain ⟨i, hi⟩ := List.mem_iff_getElem?.1 hj
    have h3 := h0.2 i j hi
    obtain ⟨o, ho⟩ := ofLtL (xs := hl.map (renO (gB (ρ ++ frs h.length m) 0))) (i := i) (by rw [h0.1]; exact get_lt hi)
    rw [ho] at h3
    exact get_lt h3
  · rw [(pickH_get (hp B)).2 i j hi, List.getElem?_map, ho]; rfl
theorem CallP.fr (ρ : List Nat) (m : Nat) {vs' : List V} {hl hl' : List Ho} (he : Enters P f) (hs : Sp P K f vs' hl fun u hh => u = v ∧ hh = hl') (hn : decide (ρ ++ frs h.length m).Nodup = true) (hm : hl'.length = ρ.length + m)
    (hp : ∀ B, pickH h ρ = some (hl.map (renO (gB (ρ ++ frs h.length m) B)))) (hw : ∀ B, Wk vs (vs'.map (renV (gB (ρ ++ frs h.length m) B))))
    (hr : drawV P M K ops N l (putV tm dst (renV (gB (ρ ++ frs h.length m) 0) v)) (wrs (padY h m) ((ρ ++ frs h.length m).zip (hl'.map (renO (gB (ρ ++ frs h.length m) 0))))) ((ρ ++ frs h.length m, ((ρ ++ frs h.length m).zip (hl'.map (renO (gB (ρ ++ frs h.length m) 0)))).map (·.1)) :: ids)) :
    CallP P M K ops N l tm h ids dst f vs :=
  CallP.frR [] ρ m he hs hn hm hp hw (fun x _ hr => by simp at hr) (by rw [thinW_nil]; exact hr)
end
end
end
end Go.Proofs.YtgfnpcmehnjopaaGreatDoor
end
section
namespace Go.Proofs.YtgfnpcmehnjopaaGreatDoor
section
open Go Go.RowKit
set_option linter.unusedVariables false
set_option linter.unusedSimpArgs false
variable {F : Fr} {P : Program} {K : Nat → Obj → Prop}
theorem bs_app (l m : List UInt8) : bs l ++ bs m = bs (l ++ m) := by simp [bs]
theorem bs_take (l : List UInt8) (n : Nat) : (bs l).take n = bs (l.take n) := by simp [bs]
theorem bs_drop (l : List UInt8) (n : Nat) : (bs l).drop n = bs (l.drop n) := by simp [bs]
def zb (n : Nat) : List UInt8 := List.replicate n 0
theorem zeros_u8 (n : Nat) : zeros n [D.sc (.int .u8 0)] = bs (zb n) := by simp [zeros, bs, zb]
theorem zb_len (n : Nat) : (zb n).length = n := by simp [zb]
theorem cells_int (k : IntKind) (n : Int) : (Value.int k n).cells = #[Value.int k n] := rfl
theorem cells_bool (b : Bool) : (Value.bool b).cells = #[Value.bool b] := rfl
theorem cells_string (s : ByteArray) : (Value.string s).cells = #[Value.string s] := rfl
theorem cells_slice (a : Option Addr) (n c : Nat) : (Value.slice a n c).cells = #[Value.slice a n c] := rfl
theorem cells_agg (xs : Array Value) : (Value.agg xs).cells = xs := rfl
theorem all_lit (l : List Value) (n : Nat) (h : n = l.length) : l.toArray.all flat 0 n = l.all flat := by
  subst h
  exact List.all_toArray ..
theorem io_below {B : Nat} {w w' : World} (h : Below B w w') : Still w w' := ⟨h.os, h.tape, h.output⟩
theorem Sp.ofV {f : FuncId} {vs : List V} {h : List Ho} {r : Value} {v : V} (hv : ∀ (F : Fr) (φ : List Pl) (w : World), Den F φ w r v)
    (hc : ∀ (F : Fr) (φ : List Pl) (w : World) (args : Array Value), DenL F φ w args.toList vs → Calls P f args w (RetV w r)) : Sp P K f vs h fun u hh => u = v ∧ hh = h := by
  intro F φ w args hK hi hd
  refine (hc F φ w args hd).mono ?_
  rintro e w' ⟨rfl, bel⟩
  exact ⟨r, φ, v, h, rfl, .more bel.size (fun b hb => bel.block b hb) (io_below bel), hi.more bel.size (fun b hb => bel.block b hb) (io_below bel), hv F φ w', rfl, rfl⟩
theorem DenD.sb {φ : List Pl} {w : World} {r : Value} {l : List UInt8} (h : DenD F φ w r (.sl 1 (bs l))) : Sb w r l := by
  rcases h.slInv with ⟨a0, rfl, e⟩ | ⟨cap, b, off, c, rfl, hcap, hk, hc, hd⟩
  · have : l = [] := by cases l with
      | nil => rfl
      | cons a l => simp [bs] at e
    subst this
    exact ⟨a0, 0, rfl, Nat.le_refl _, Nat.zero_le _, rfl, fun h => absurd h (Nat.lt_irrefl _)⟩
  · rw [bs_len] at hcap ⊢
    refine ⟨some ⟨b, off, none⟩, cap, rfl, hcap.1, hcap.2, by simp, fun h0 => ⟨_, rfl, ?_, fun j u hu => ?_⟩⟩
    · have := (hc 0 0 (by rw [bs_len]; exact h0) (by omega)).1
      exact this.1
    · obtain ⟨y, hy, rfl⟩ : ∃ y, l[j]? = some y ∧ bv y = u := by simpa using hu
      have hlt := get_lt hy
      have h1 := (hc j 0 (by rw [bs_len]; exact hlt) (by omega)).2
      have h2 := hd j [.sc (.int .u8 y.toNat)] 0 _ (by rw [bs_get, hy]; rfl) rfl
      generalize c j 0 = q at h1 h2
      have h3 : q = .int .u8 y.toNat := by
        cases h2; rfl
      subst h3
      have e : ((⟨b, off, none⟩ : Addr).add j) = ⟨b, off + j, none⟩ := by
        unfold Addr.add; split
        · rename_i e; subst e; rfl
        · rfl
      rw [e]
      simpa [bv, B] using h1
theorem Den.ofOwn {φ : List Pl} {w w' : World} {h : List Ho} (hi : Inv F φ w h) (hs : w.heap.size ≤ w'.heap.size) {e : TypeId} {u : Value} {l : List UInt8} (ho : w'.ownsRow w.heap.size e 1 u l.length (l.map bv)) : DenD F φ w' u (.sl 1 (bs l)) := by
  obtain ⟨h1, h2⟩ := ho
  rcases h2 with ⟨rfl, h0⟩ | ⟨g, cap, cur, rfl, hb, hg, hcap, hmx, hsz, htk⟩
  · have : l = [] := List.eq_nil_of_length_eq_zero h0
    subst this
    exact .nil
  · have hcur : ∀ (j : Nat) (y : UInt8), l[j]? = some y → cur[j]? = some (Value.int .u8 y.toNat) := fun j y hy => by
      have h3 : (cur.toList.take (l.length * 1))[j]? = some (bv y) := by rw [htk, List.getElem?_map, hy]; rfl
      rw [List.getElem?_take] at h3
      split at h3
      · rw [Array.getElem?_toList] at h3; rw [h3]; simp [bv, B]
      · cases h3
    refine .sl (fun i _ => .int .u8 ((l[i]?).getD 0).toNat) (bs_len l) ⟨hcap, hmx⟩ (fun i e he => ?_) (fun i j hlt hj => ?_) (fun i e j x he hx => ?_)
    · rw [bs_get] at he
      obtain ⟨y, _, rfl⟩ := Option.map_eq_some_iff.1 he
      rfl
    · obtain rfl : j = 0 := by omega
      have hy : l[i]? = some l[i] := List.getElem?_eq_getElem hlt
      have h3 := hcur i _ hy
      refine ⟨⟨heap_lt hg, fun i hi' => ?_, fun i e' hi' => ?_, fun hF => ?_⟩, ?_⟩
      · have := hi.lt hi' rfl; omega
      · have := hi.lt hi' rfl; omega
      · have := hi.frB _ _ hF; omega
      · rw [cell_of]
        refine ⟨cur, e, (0, 0), hg, ?_⟩
        simpa [hy] using h3
    · rw [bs_get] at he
      obtain ⟨y, hy, rfl⟩ := Option.map_eq_some_iff.1 he
      cases j with
      | zero => simp at hx; subst hx; simp only [hy, Option.getD_some]; exact .sc rfl
      | succ j => simp at hx
theorem Sp.ofBE {f : FuncId} {vs : List V} {h : List Ho} {l : List UInt8} {n : Int}
    (hc : ∀ (F : Fr) (φ : List Pl) (w : World) (args : Array Value), DenL F φ w args.toList vs → Calls P f args w (RetBE w l n)) : Sp P K f vs h fun u hh => u = .tup [.sl 1 (bs l), .sc (.int .i64 n)] ∧ hh = h := by
  intro F φ w args hK hi hd
  refine (hc F φ w args hd).mono ?_
  rintro e w' ⟨u, rfl, ho, bel⟩
  refine ⟨_, φ, _, h, rfl, .more bel.size (fun b hb => bel.block b hb) (io_below bel), hi.more bel.size (fun b hb => bel.block b hb) (io_below bel), ?_, rfl, rfl⟩
  refine .tup rfl fun i r v hr hv => ?_
  match i, hr, hv with
  | 0, hr, hv => simp at hr hv; subst hr hv; exact .d (Den.ofOwn hi bel.size ho)
  | 1, hr, hv => simp at hr hv; subst hr hv; exact .d (.sc rfl)
theorem Ext.below {w w' : World} {φ' : List Pl} (h : Ext [] w φ' w') : Below w.heap.size w w' :=
  ⟨h.io.1, h.io.2.1, h.io.2.2, h.size, fun k hk => h.keep k hk fun i p hp => by simp at hp⟩
theorem Inv.none {w : World} : Inv (⟨fun _ _ => False, fun _ _ => False⟩ : Fr) [] w [] :=
  ⟨rfl, fun i p o hp => by simp at hp, fun i j p q b hp => by simp at hp, fun b o h => h.elim, fun i p b o hp => by simp at hp, fun b x h => h.elim⟩
theorem Sp.run {f : FuncId} {vs : List V} {R : V → List Ho → Prop} (hs : Sp P (fun _ _ => False) f vs [] R) {w : World} {args : Array Value} (hd : DenL ⟨fun _ _ => False, fun _ _ => False⟩ [] w args.toList vs) :
    Calls P f args w fun e w' => ∃ u v h', e = .returned u ∧ Below w.heap.size w w' ∧ (∃ F φ, Den F φ w' u v) ∧ R v h' := by
  refine (hs _ _ w args rfl Inv.none hd).mono ?_
  rintro e w' ⟨u, φ', v, h', rfl, he, hi, hd, hr⟩
  exact ⟨u, v, h', rfl, he.below, ⟨_, _, hd⟩, hr⟩
end
section
open Go Go.RowKit
set_option linter.unusedVariables false
set_option linter.unusedSimpArgs false
variable {F : Fr} {P : Program} {K : Nat → Obj → Prop}
theorem Wk.tup {vs vs' : List V} (h : Wk vs vs') : Wk [.tup vs] [.tup vs'] := fun F φ w rs hd => by
  cases hd with
  | cons h1 h2 =>
    cases h2
    obtain ⟨us, rfl, hs, hg⟩ := h1.tupInv
    have := h F φ w us.toList (.of_get (by simpa using hs) fun i r v hr hv => hg i r v (by simpa using hr) hv)
    exact .cons (.tup (by simpa using this.length) fun i r v hr hv => this.get i r v (by simpa using hr) hv) .nil
theorem Wk.one {v v' : V} (h : Wk [v] [v']) {F : Fr} {φ : List Pl} {w : World} {r : Value} (hd : Den F φ w r v) : Den F φ w r v' := by
  cases h F φ w [r] (.cons hd .nil) with
  | cons h1 _ => exact h1
theorem Sp.data {f : FuncId} {vs : List V} {R : V → List Ho → Prop} {v' : V} (hs : Sp P K f vs [] R) (h1 : ∀ g, renV g v' = v') (hR : ∀ v h, R v h → Wk [v] [v']) : Sp P K f vs [] fun u hh => u = v' ∧ hh = [] := by
  intro F φ w args hK hi hd
  have e : φ = [] := List.eq_nil_of_length_eq_zero (by have := hi.len; simpa using this)
  subst e
  refine (hs F [] w args hK hi hd).mono ?_
  rintro e w' ⟨u, φ', v, h', rfl, he, hi', hd', hr⟩
  refine ⟨u, [], v', [], rfl, ⟨he.size, Nat.le_refl _, fun i hx => .inl rfl, he.keep, fun i b e hb => by simp at hb, fun i b hb => by simp at hb, fun i b e hb => by simp at hb, he.io⟩, ?_, ?_, rfl, rfl⟩
  · exact ⟨rfl, fun i p o hp => by simp at hp, fun i j p q b hp => by simp at hp, hi'.frB, fun i p b o hp => by simp at hp, fun b x hx => ⟨(hi'.frK b x hx).1, fun i p hp => by simp at hp⟩⟩
  · exact ((hR v h' hr).one hd').down (g := fun _ => φ'.length) (fun b o ⟨a1, a2, a3, a4⟩ => ⟨a1, fun i hi' => by simp at hi', fun i e hi' => by simp at hi', a4⟩) (fun i ⟨p, hp, _⟩ => absurd (get_lt hp) (Nat.lt_irrefl _)) v' (h1 _).symm
theorem Sp.lift {f : FuncId} {vs : List V} {v : V} (hs : Sp P K f vs [] fun u hh => u = v ∧ hh = []) (h1 : ∀ g, vs.map (renV g) = vs) (h2 : ∀ g, renV g v = v) (h : List Ho) : Sp P K f vs h fun u hh => u = v ∧ hh = h :=
  hs.frame [] (by simp) rfl (fun i j o hi => by simp at hi) (by simp) (fun F φ w rs hd => by rw [h1]; exact hd) fun u hh ⟨e1, e2⟩ => by
    rw [e1, e2, h2]; exact ⟨rfl, by simp [mergeH, setAll]⟩
theorem Sp.pure_ {f : FuncId} {vs : List V} {R : V → List Ho → Prop} {v' : V} (hs : Sp P K f vs [] R) (h1 : ∀ g, vs.map (renV g) = vs) (h2 : ∀ g, renV g v' = v') (hR : ∀ v h, R v h → Wk [v] [v']) (h : List Ho) : Sp P K f vs h fun u hh => u = v' ∧ hh = h :=
  (hs.data h2 hR).lift h1 h2 h
theorem Sp.ofB {f : FuncId} {vs : List V} {h : List Ho} {l : List UInt8}
    (hc : ∀ (F : Fr) (φ : List Pl) (w : World) (args : Array Value), DenL F φ w args.toList vs → Calls P f args w (RetB w l)) : Sp P K f vs h fun u hh => u = .sl 1 (bs l) ∧ hh = h := by
  intro F φ w args hK hi hd
  refine (hc F φ w args hd).mono ?_
  rintro e w' ⟨u, rfl, ho, bel⟩
  exact ⟨_, φ, _, h, rfl, .more bel.size (fun b hb => bel.block b hb) (io_below bel), hi.more bel.size (fun b hb => bel.block b hb) (io_below bel), .d (Den.ofOwn hi bel.size ho), rfl, rfl⟩
end
end Go.Proofs.YtgfnpcmehnjopaaGreatDoor
end
