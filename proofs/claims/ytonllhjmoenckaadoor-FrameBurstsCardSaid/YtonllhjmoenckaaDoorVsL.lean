/- A walk over states as pure values: a region that draws its order is walked once, in the text's order; operations that touch one object wait for each other. No program stands here. -/
import Derived.Test.YtonllhjmoenckaaDoorVsK
import Derived.Test.YtonllhjmoenckaaDoorGrow
import Derived.Test.YtonllhjmoenckaaDoorVsJ
namespace Go.Proofs.YtonllhjmoenckaaDoor
section
open Go Go.RowKit
set_option linter.unusedVariables false
set_option linter.unusedSimpArgs false
variable {F : Fr} {P : Program} {K : Nat → Obj → Prop}

/-- What an operation came to: its value, the objects that it touched, what it wrote. -/
structure Rc where
  v : V
  rd : List Nat
  wr : List (Nat × Ho)

def wrs (h : List Ho) : List (Nat × Ho) → List Ho
  | [] => h
  | (i, o) :: r => wrs (h.set i o) r
def wAt (i : Nat) : List (Nat × Ho) → Option Ho
  | [] => none
  | (j, o) :: r => match wAt i r with
    | some x => some x
    | none => if j = i then some o else none
theorem wrs_get (i : Nat) : ∀ (r : List (Nat × Ho)) (h : List Ho), (wrs h r)[i]? = (h[i]?).map fun y => (wAt i r).getD y
  | [], h => by simp [wrs, wAt]
  | (j, o) :: r, h => by
    rw [wrs, wrs_get i r, wAt]
    cases wAt i r with
    | some x =>
      simp only [Option.getD_some]
      rw [List.getElem?_set]
      by_cases e : j = i
      · subst e
        by_cases hl : j < h.length
        · rw [if_pos rfl, if_pos hl, List.getElem?_eq_getElem hl]; rfl
        · rw [if_pos rfl, if_neg hl, List.getElem?_eq_none (by omega)]
      · rw [if_neg e]
    | none =>
      simp only [Option.getD_none, Option.map_id']
      rw [List.getElem?_set]
      by_cases e : j = i
      · subst e
        by_cases hl : j < h.length
        · rw [if_pos rfl, if_pos hl, List.getElem?_eq_getElem hl]; simp
        · rw [if_pos rfl, if_neg hl, List.getElem?_eq_none (by omega)]; rfl
      · rw [if_neg e, if_neg e]; simp
theorem wAt_mem {i : Nat} : ∀ {r : List (Nat × Ho)}, i ∉ r.map (·.1) → wAt i r = none
  | [], _ => rfl
  | (j, o) :: r, h => by
    simp only [List.map_cons, List.mem_cons, not_or] at h
    rw [wAt, wAt_mem h.2]
    simp only []
    rw [if_neg (fun e => h.1 e.symm)]

/-- An operation's step, told so that it serves wherever what it looks at is as it was. -/
def SF (P : Program) (K : Nat → Obj → Prop) (ops : Array Oper) (o : Oper) (tm : List V) (h : List Ho) (rc : Rc) : Prop :=
  ∀ (F : Fr) (φ : List Pl) (w : World) (a : Act) (tm' : List V) (h' : List Ho), F.known = K → Inv F φ w h' → RelT F φ w a.tmps tm' →
    (∀ t ∈ o.looksAt ops, tm'[t]? = tm[t]?) → (∀ i ∈ rc.rd, h'[i]? = h[i]?) → (∃ s : Nat, h'[s]? = some .yet) →
    (Region.wanted o (yielded ops a.tmps) = true ∧ Gd P F φ w rc.v (wrs h' rc.wr) ((execOp a.eval o).run P w)) ∨ (Region.wanted o (yielded ops a.tmps) = false ∧ rc.v = .undef ∧ rc.wr = [])

/-- The walk in the text's order, as a row of steps. -/
inductive Ch (P : Program) (K : Nat → Obj → Prop) (ops : Array Oper) : List Oper → List V → List Ho → List Rc → List V → List Ho → Prop
  | nil {tm : List V} {h : List Ho} : Ch P K ops [] tm h [] tm h
  | cons {o : Oper} {l : List Oper} {tm tm' : List V} {h h' : List Ho} {rc : Rc} {rs : List Rc} (hs : SF P K ops o tm h rc) (hw : ∀ i ∈ rc.wr.map (·.1), i ∈ rc.rd) (hc : Ch P K ops l (putV tm o.dst rc.v) (wrs h rc.wr) rs tm' h') :
      Ch P K ops (o :: l) tm h (rc :: rs) tm' h'

/-- Slots and objects behind those operations that have been carried out. -/
def tmS (ops : Array Oper) (rs : List Rc) (tm0 : List V) (sel : Nat → Bool) : Nat → List V
  | 0 => tm0
  | n + 1 => match sel n, ops[n]?, rs[n]? with
    | true, some o, some rc => putV (tmS ops rs tm0 sel n) o.dst rc.v
    | _, _, _ => tmS ops rs tm0 sel n
def hS (rs : List Rc) (h0 : List Ho) (sel : Nat → Bool) : Nat → List Ho
  | 0 => h0
  | n + 1 => match sel n, rs[n]? with
    | true, some rc => wrs (hS rs h0 sel n) rc.wr
    | _, _ => hS rs h0 sel n
/-- Does operation n write slot t? object i? -/
def wT (ops : Array Oper) (rs : List Rc) (n t : Nat) : Option V := match ops[n]?, rs[n]? with
  | some o, some rc => if o.dst = some t then some rc.v else none
  | _, _ => none
def wH (rs : List Rc) (n i : Nat) : Option Ho := (rs[n]?).bind fun rc => wAt i rc.wr
def look {α : Type} (wf : Nat → Option α) (sel : Nat → Bool) : Nat → Option α
  | 0 => none
  | n + 1 => match sel n, wf n with
    | true, some x => some x
    | _, _ => look wf sel n
theorem look_congr {α : Type} {wf : Nat → Option α} {s s' : Nat → Bool} : ∀ n, (∀ i, i < n → wf i ≠ none → s i = s' i) → look wf s n = look wf s' n
  | 0, _ => rfl
  | n + 1, h => by
    have ih := look_congr (wf := wf) (s := s) (s' := s') n fun i hi => h i (by omega)
    unfold look
    cases hw : wf n with
    | none => cases s n <;> cases s' n <;> exact ih
    | some x =>
      have := h n (by omega) (by rw [hw]; simp)
      rw [this, ih]
theorem look_cut {α : Type} {wf : Nat → Option α} {k : Nat} : ∀ n, k ≤ n → look wf (fun i => decide (i < k)) n = look wf (fun _ => true) k
  | 0, h => by obtain rfl : k = 0 := by omega
               rfl
  | n + 1, h => by
    by_cases e : k = n + 1
    · subst e
      exact look_congr _ fun i hi _ => by simp [hi]
    · have ih := look_cut (wf := wf) (k := k) n (by omega)
      have : decide (n < k) = false := by simp; omega
      rw [show look wf (fun i => decide (i < k)) (n + 1) = look wf (fun i => decide (i < k)) n from by simp only [look, this]]
      exact ih
/-- One more. -/
theorem look_more {α : Type} {wf : Nat → Option α} {s : Nat → Bool} {k : Nat} (hs : s k = false) : ∀ n, k < n → (∀ j, j < n → k < j → s j = true → wf k ≠ none → wf j = none) →
    look wf (fun i => if i = k then true else s i) n = match wf k with
      | some x => some x
      | none => look wf s n
  | 0, h, _ => absurd h (by omega)
  | n + 1, h, hlater => by
    by_cases e : k = n
    · subst e
      have hc : look wf (fun i => if i = k then true else s i) k = look wf s k := look_congr _ fun i hi _ => if_neg (by omega)
      unfold look
      simp only [if_true]
      cases hw : wf k with
      | some x => rfl
      | none =>
        simp only []
        rw [hc, hs]
    · have ih := look_more (wf := wf) hs n (by omega) fun j hj => hlater j (by omega)
      unfold look
      simp only [if_neg (fun h => e h.symm : ¬ n = k)]
      cases hsn : s n with
      | false => exact ih
      | true =>
        cases hwn : wf n with
        | none => exact ih
        | some y =>
          simp only []
          cases hwk : wf k with
          | none => rfl
          | some x =>
            have := hlater n (by omega) (by omega) hsn (by rw [hwk]; simp)
            rw [hwn] at this; cases this

theorem tmS_get (ops : Array Oper) (rs : List Rc) (tm0 : List V) (sel : Nat → Bool) (t : Nat) : ∀ n, (tmS ops rs tm0 sel n)[t]? = (tm0[t]?).map fun y => (look (fun n => wT ops rs n t) sel n).getD y
  | 0 => by simp [tmS, look]
  | n + 1 => by
    have ih := tmS_get ops rs tm0 sel t n
    unfold tmS look wT
    cases hs : sel n with
    | false => exact ih
    | true =>
      cases ho : ops[n]? with
      | none => exact ih
      | some o =>
        cases hr : rs[n]? with
        | none => exact ih
        | some rc =>
          simp only []
          by_cases hd : o.dst = some t
          · rw [if_pos hd, hd]
            simp only [putV]
            rw [List.getElem?_set]
            simp only [if_true, Option.getD_some]
            cases h0 : tm0[t]? with
            | none =>
              rw [h0] at ih
              simp only [Option.map_none] at ih ⊢
              rw [if_neg]
              intro hl
              rw [List.getElem?_eq_getElem hl] at ih; cases ih
            | some y =>
              rw [h0] at ih
              simp only [Option.map_some] at ih ⊢
              rw [if_pos (get_lt ih)]
          · rw [if_neg hd]
            simp only []
            cases hdd : o.dst with
            | none => exact ih
            | some d =>
              simp only [putV]
              rw [List.getElem?_set_ne (fun e => hd (by rw [hdd, e]))]
              exact ih
theorem hS_get (rs : List Rc) (h0 : List Ho) (sel : Nat → Bool) (i : Nat) : ∀ n, (hS rs h0 sel n)[i]? = (h0[i]?).map fun y => (look (fun n => wH rs n i) sel n).getD y
  | 0 => by simp [hS, look]
  | n + 1 => by
    have ih := hS_get rs h0 sel i n
    unfold hS look wH
    cases hs : sel n with
    | false => exact ih
    | true =>
      cases hr : rs[n]? with
      | none => exact ih
      | some rc =>
        simp only [Option.bind_some]
        rw [wrs_get, ih]
        cases hw : wAt i rc.wr with
        | none => cases h0[i]? <;> rfl
        | some x => cases h0[i]? <;> rfl

/-- The steps of a row, each at the state that the text's order gives. -/
theorem Ch.at {ops : Array Oper} {l : List Oper} {tm tm' : List V} {h h' : List Ho} {rs : List Rc} (hc : Ch P K ops l tm h rs tm' h') {tm0 : List V} {h0 : List Ho} : ∀ {k : Nat} {rp : List Rc}, rp.length = k → (∀ j, l[j]? = ops[k + j]?) →
    tm = tmS ops (rp ++ rs) tm0 (fun _ => true) k → h = hS (rp ++ rs) h0 (fun _ => true) k →
    rs.length = l.length ∧ tm' = tmS ops (rp ++ rs) tm0 (fun _ => true) (k + l.length) ∧ h' = hS (rp ++ rs) h0 (fun _ => true) (k + l.length) ∧
    ∀ (i : Nat) (o : Oper) (rc : Rc), k ≤ i → ops[i]? = some o → (rp ++ rs)[i]? = some rc → SF P K ops o (tmS ops (rp ++ rs) tm0 (fun _ => true) i) (hS (rp ++ rs) h0 (fun _ => true) i) rc ∧ ∀ x ∈ rc.wr.map (·.1), x ∈ rc.rd := by
  induction hc with
  | nil =>
    intro k rp hk hl e1 e2
    refine ⟨rfl, by simpa using e1, by simpa using e2, fun i o rc hi ho hr => ?_⟩
    rw [List.append_nil, List.getElem?_eq_none (by omega)] at hr; cases hr
  | @cons o l tm tm' h h' rc rs hs hw hc ih =>
    intro k rp hk hl e1 e2
    have h0' : ops[k]? = some o := by simpa using (hl 0).symm
    have hr : (rp ++ rc :: rs)[k]? = some rc := by rw [List.getElem?_append_right (by omega), hk]; simp
    have eapp : rp ++ rc :: rs = (rp ++ [rc]) ++ rs := by simp
    have t1 : putV tm o.dst rc.v = tmS ops (rp ++ rc :: rs) tm0 (fun _ => true) (k + 1) := by simp only [tmS, h0', hr, e1]
    have t2 : wrs h rc.wr = hS (rp ++ rc :: rs) h0 (fun _ => true) (k + 1) := by simp only [hS, hr, e2]
    rw [eapp] at t1 t2
    obtain ⟨a, b, c, d⟩ := ih (k := k + 1) (rp := rp ++ [rc]) (by simp [hk]) (fun j => by have := hl (j + 1); simpa [Nat.add_assoc, Nat.add_comm 1 j] using this) t1 t2
    rw [← eapp] at b c d
    have e : k + (o :: l).length = k + 1 + l.length := by simp; omega
    refine ⟨by simp [a], by rw [e]; exact b, by rw [e]; exact c, fun i o' rc' hi ho hr' => ?_⟩
    by_cases hik : i = k
    · subst hik
      rw [h0'] at ho; cases ho
      rw [hr] at hr'; cases hr'
      rw [← e1, ← e2]; exact ⟨hs, hw⟩
    · exact d i o' rc' (by omega) ho hr'

/-! ### Who waits for whom -/
def befs (ops : List Oper) : List Oper → List Nat → List Nat
  | [], acc => acc
  | o :: l, acc => befs ops l (acc ++ [o.after.toList.foldl (fun s e => if Region.binds .any e then s ||| 2 ^ e.on ||| acc.getD e.on 0 else s) 0])
theorem befs_fold {ops : Array Oper} {acc : List Nat} {k : Nat} {o : Oper} (ho : ops[k]? = some o) (ih : ∀ m, m < acc.length → ∀ j, (acc.getD m 0).testBit j = true → Anc ops m j) :
    ∀ (es : List Edge) (s : Nat), (∀ e ∈ es, e ∈ o.after) → (∀ j, s.testBit j = true → Anc ops k j) → ∀ j, (es.foldl (fun s e => if Region.binds .any e then s ||| 2 ^ e.on ||| acc.getD e.on 0 else s) s).testBit j = true → Anc ops k j
  | [], s, _, hs, j, h => hs j h
  | e :: es, s, hm, hs, j, h => by
    simp only [List.foldl_cons] at h
    refine befs_fold ho ih es _ (fun x hx => hm x (List.mem_cons_of_mem _ hx)) (fun j hj => ?_) j h
    split at hj
    · rename_i hb
      have hd : dep o e.on = true := by
        unfold dep
        refine List.any_eq_true.2 ⟨e, Array.mem_toList_iff.2 (hm e (List.mem_cons_self ..)), ?_⟩
        simp [hb]
      simp only [Nat.testBit_or, Bool.or_eq_true] at hj
      rcases hj with (hj | hj) | hj
      · exact hs j hj
      · have : e.on = j := by
          by_cases e1 : e.on = j
          · exact e1
          · rw [Nat.testBit_two_pow_of_ne e1] at hj; cases hj
        subst this; exact .one ho hd
      · by_cases hlt : e.on < acc.length
        · exact .more ho hd (ih _ hlt j hj)
        · rw [List.getD_eq_getElem?_getD, List.getElem?_eq_none (by omega)] at hj; simp at hj
    · exact hs j hj
theorem befs_spec {ops : Array Oper} : ∀ (l : List Oper) (acc : List Nat) (k : Nat), acc.length = k → (∀ j, l[j]? = ops[k + j]?) → (∀ m, m < acc.length → ∀ j, (acc.getD m 0).testBit j = true → Anc ops m j) →
    ∀ m, m < (befs ops.toList l acc).length → ∀ j, ((befs ops.toList l acc).getD m 0).testBit j = true → Anc ops m j
  | [], acc, k, hk, hl, ih => ih
  | o :: l, acc, k, hk, hl, ih => by
    have h0 : ops[k]? = some o := by simpa using (hl 0).symm
    refine befs_spec l _ (k + 1) (by simp [hk]) (fun j => by have := hl (j + 1); simpa [Nat.add_assoc, Nat.add_comm 1 j] using this) fun m hm j hj => ?_
    by_cases e : m < acc.length
    · refine ih m e j ?_
      rw [List.getD_eq_getElem?_getD, List.getElem?_append_left e] at hj
      rw [List.getD_eq_getElem?_getD]; exact hj
    · have : m = k := by simp at hm; omega
      subst this
      rw [List.getD_eq_getElem?_getD, List.getElem?_append_right (by omega)] at hj
      simp only [hk, Nat.sub_self, List.getElem?_cons_zero, Option.getD_some] at hj
      exact befs_fold h0 ih _ 0 (fun e he => Array.mem_toList_iff.1 he) (fun j h => by simp at h) j hj

/-- Operations that touch one object, one of them to write it, wait for each other. -/
def clash (a b : List Nat × List Nat) : Bool := a.2.any (fun i => b.1.contains i) || b.2.any (fun i => a.1.contains i)
def okOrd (ops : Array Oper) (ids : List (List Nat × List Nat)) : Bool :=
  let bf := befs ops.toList ops.toList []
  (List.range ids.length).all fun k => (List.range k).all fun j => !clash (ids.getD j ([], [])) (ids.getD k ([], [])) || (bf.getD k 0).testBit j

theorem okOrd_spec {ops : Array Oper} {ids : List (List Nat × List Nat)} (h : okOrd ops ids = true) (hl : ids.length = ops.size) {j k : Nat} (hjk : j < k) {a b : List Nat × List Nat} (ha : ids[j]? = some a) (hb : ids[k]? = some b) (hc : clash a b = true) : Anc ops k j := by
  unfold okOrd at h
  have hk := get_lt hb
  have h1 := List.all_eq_true.1 (List.all_eq_true.1 h k (List.mem_range.2 hk)) j (List.mem_range.2 hjk)
  rw [List.getD_eq_getElem?_getD, List.getD_eq_getElem?_getD, ha, hb] at h1
  simp only [Option.getD_some, hc, Bool.not_true, Bool.false_or] at h1
  refine befs_spec ops.toList [] 0 rfl (fun i => by simp) (fun m hm => by simp at hm) k ?_ j h1
  rcases Nat.lt_or_ge k (befs ops.toList ops.toList []).length with h2 | h2
  · exact h2
  · rw [List.getD_eq_getElem?_getD, List.getElem?_eq_none h2] at h1; simp at h1

/-- In the midst of any order. -/
structure MidV (F : Fr) (ops : Array Oper) (rs : List Rc) (φ0 : List Pl) (w0 : World) (tm0 : List V) (h0 : List Ho) (listed : Array Bool) (a : Act) (w : World) : Prop where
  size : listed.size = ops.size
  shut : ∀ j o, ops[j]? = some o → listed.getD j false = true → ∀ e ∈ o.after, Region.binds .any e = true → listed.getD e.on false = true
  defers : a.defers = []
  rel : ∃ φ, Ext φ0 w0 φ w ∧ Inv F φ w (hS rs h0 (fun j => listed.getD j false) ops.size) ∧ RelT F φ w a.tmps (tmS ops rs tm0 (fun j => listed.getD j false) ops.size)

theorem draw_any {ops : Array Oper} {rs : List Rc} {tm0 : List V} {h0 : List Ho} {Q : Exit → Act → World → Prop} (F : Fr) (φ0 : List Pl) (w0 : World) (h00 : List Ho) (hK : F.known = K) (hi0 : Inv F φ0 w0 h00)
    (hok : Okay ops) (hrs : rs.length = ops.size)
    (hsf : ∀ (i : Nat) (o : Oper) (rc : Rc), ops[i]? = some o → rs[i]? = some rc → SF P K ops o (tmS ops rs tm0 (fun _ => true) i) (hS rs h0 (fun _ => true) i) rc ∧ ∀ x ∈ rc.wr.map (·.1), x ∈ rc.rd)
    (hord : okOrd ops (rs.map fun rc => (rc.rd, rc.wr.map (·.1))) = true) (hys : ∃ s : Nat, h0[s]? = some .yet ∧ ∀ rc ∈ rs, s ∉ rc.wr.map (·.1))
    (hend : ∀ a w, RelA F φ0 w0 ⟨tmS ops rs tm0 (fun _ => true) ops.size, hS rs h0 (fun _ => true) ops.size⟩ a w → Q .normal a w) :
    ∀ (fuel : Nat) (listed : Array Bool) (a : Act) (w : World), left ops.size listed ≤ fuel → MidV F ops rs φ0 w0 tm0 h0 listed a w → wpAny P .any ops Q fuel listed a w := by
  have anc : ∀ (j k : Nat) (x y : Rc), j < k → rs[j]? = some x → rs[k]? = some y → ∀ i, (i ∈ x.wr.map (·.1) ∧ i ∈ y.rd) ∨ (i ∈ y.wr.map (·.1) ∧ i ∈ x.rd) → Anc ops k j := fun j k x y hjk hx hy i hi => by
    refine okOrd_spec hord (by simp [hrs]) hjk (by rw [List.getElem?_map, hx]; rfl) (by rw [List.getElem?_map, hy]; rfl) ?_
    unfold clash
    rw [Bool.or_eq_true]
    rcases hi with ⟨h1, h2⟩ | ⟨h1, h2⟩
    · exact .inl (List.any_eq_true.2 ⟨i, h1, by simpa using h2⟩)
    · exact .inr (List.any_eq_true.2 ⟨i, h1, by simpa using h2⟩)
  have fin : ∀ (listed : Array Bool) (a : Act) (w : World), (∀ j, j < ops.size → listed.getD j false = true) → MidV F ops rs φ0 w0 tm0 h0 listed a w → Q .normal a w := by
    intro listed a w hall h
    obtain ⟨φ, he, hi, ht⟩ := h.rel
    have e1 : tmS ops rs tm0 (fun j => listed.getD j false) ops.size = tmS ops rs tm0 (fun _ => true) ops.size := List.ext_getElem? fun t => by
      rw [tmS_get, tmS_get, look_congr _ fun i hi _ => hall i hi]
    have e2 : hS rs h0 (fun j => listed.getD j false) ops.size = hS rs h0 (fun _ => true) ops.size := List.ext_getElem? fun t => by
      rw [hS_get, hS_get, look_congr _ fun i hi _ => hall i hi]
    rw [e1] at ht
    rw [e2] at hi
    exact hend a w ⟨φ, he, hi, ht, h.defers⟩
  have full : ∀ listed : Array Bool, listed.size = ops.size → Region.ready .any ops listed = [] → ∀ j, j < ops.size → listed.getD j false = true := by
    intro listed hs hr j
    induction j using Nat.strongRecOn with
    | ind j ih =>
      intro hj
      cases hl : listed.getD j false with
      | true => rfl
      | false =>
        exfalso
        have hoj : ops[j]? = some ops[j] := Array.getElem?_eq_getElem hj
        have hmem : j ∈ Region.ready .any ops listed := mem_ready.2 ⟨by
          have : j < listed.size := by omega
          simp [this] at hl ⊢
          exact hl, ops[j], hoj, fun e he hb => ih e.on (hok.back j _ hoj e he hb) (by have := hok.back j _ hoj e he hb; omega)⟩
        rw [hr] at hmem; cases hmem
  intro fuel
  induction fuel with
  | zero =>
    intro listed a w hf h
    have hall := left_zero (l := listed) (n := ops.size) (by omega)
    refine ⟨?_, fin listed a w hall h⟩
    apply List.eq_nil_iff_forall_not_mem.2
    intro j hj
    obtain ⟨h1, o, ho, _⟩ := mem_ready.1 hj
    have hlt := (Array.getElem?_eq_some_iff.1 ho).1
    have h2 := hall j hlt
    have : j < listed.size := by rw [h.size]; exact hlt
    simp [this] at h1 h2
    rw [h1] at h2; cases h2
  | succ fuel ih =>
    intro listed a w hf h
    refine ⟨fun hr => fin listed a w (full listed h.size hr) h, fun k hk => ?_⟩
    obtain ⟨h1, o, ho, hr⟩ := mem_ready.1 hk
    have hlt := (Array.getElem?_eq_some_iff.1 ho).1
    have hls : k < listed.size := by rw [h.size]; exact hlt
    have hun : listed.getD k false = false := by
      simp [hls] at h1 ⊢
      exact h1
    have hrk : rs[k]? = some (rs[k]'(by rw [hrs]; exact hlt)) := List.getElem?_eq_getElem _
    generalize rs[k]'(by rw [hrs]; exact hlt) = rc at hrk
    obtain ⟨φ, he, hi, ht⟩ := h.rel
    obtain ⟨hs, hwr⟩ := hsf k o rc ho hrk
    -- what k waits for has been carried out; what waits for k has not
    have up : ∀ j, Anc ops k j → listed.getD j false = true := fun j hj => by
      cases hj with
      | one ho' hd =>
        rw [ho] at ho'; cases ho'
        obtain ⟨e, he, hb, hon⟩ := dep_on hd
        rw [← hon]; exact hr e he hb
      | more ho' hd hrest =>
        rw [ho] at ho'; cases ho'
        obtain ⟨e, he, hb, hon⟩ := dep_on hd
        exact anc_listed h.shut hrest (by rw [← hon]; exact hr e he hb)
    have down : ∀ j, Anc ops j k → listed.getD j false = false := fun j hj => by
      cases hl : listed.getD j false with
      | false => rfl
      | true => have := anc_listed h.shut hj hl; rw [hun] at this; cases this
    have hT : ∀ t ∈ o.looksAt ops, (tmS ops rs tm0 (fun j => listed.getD j false) ops.size)[t]? = (tmS ops rs tm0 (fun _ => true) k)[t]? := fun t hm => by
      rw [tmS_get, tmS_get, ← look_cut (k := k) ops.size (by omega)]
      congr 2
      funext y
      congr 1
      refine look_congr _ fun j hj hw => ?_
      have hd : ∃ oj, ops[j]? = some oj ∧ oj.dst = some t := by
        unfold wT at hw
        split at hw
        · rename_i oj rj e1 e2
          by_cases e3 : oj.dst = some t
          · exact ⟨oj, e1, e3⟩
          · rw [if_neg e3] at hw; exact absurd rfl hw
        · exact absurd rfl hw
      obtain ⟨oj, hoj, hdj⟩ := hd
      rcases Nat.lt_trichotomy j k with hlt2 | heq | hgt
      · rw [decide_eq_true hlt2]
        exact up j (.one ho ((hok.look k j o oj t ho hoj (by omega) hdj hm).1 hlt2))
      · subst heq; simpa using hun
      · have e : decide (j < k) = false := by simp; omega
        rw [e]
        exact down j (.one hoj ((hok.look k j o oj t ho hoj (by omega) hdj hm).2 hgt))
    have wmem : ∀ (j i : Nat), wH rs j i ≠ none → ∃ x, rs[j]? = some x ∧ i ∈ x.wr.map (·.1) := fun j i hw => by
      unfold wH at hw
      cases hx : rs[j]? with
      | none => rw [hx] at hw; exact absurd rfl hw
      | some x =>
        refine ⟨x, rfl, ?_⟩
        rw [hx] at hw
        exact Classical.byContradiction fun hn => hw (wAt_mem hn)
    have hH : ∀ i ∈ rc.rd, (hS rs h0 (fun j => listed.getD j false) ops.size)[i]? = (hS rs h0 (fun _ => true) k)[i]? := fun i hm => by
      rw [hS_get, hS_get, ← look_cut (k := k) ops.size (by omega)]
      congr 2
      funext y
      congr 1
      refine look_congr _ fun j hj hw => ?_
      obtain ⟨x, hx, hxm⟩ := wmem j i hw
      rcases Nat.lt_trichotomy j k with hlt2 | heq | hgt
      · rw [decide_eq_true hlt2]
        exact up j (anc j k x rc hlt2 hx hrk i (.inl ⟨hxm, hm⟩))
      · subst heq; simpa using hun
      · have e : decide (j < k) = false := by simp; omega
        rw [e]
        exact down j (anc k j rc x hgt hrk hx i (.inr ⟨hxm, hm⟩))
    have hY : ∃ s : Nat, (hS rs h0 (fun j => listed.getD j false) ops.size)[s]? = some .yet := by
      obtain ⟨s, h1, h2⟩ := hys
      refine ⟨s, ?_⟩
      have hn : look (fun n => wH rs n s) (fun j => listed.getD j false) ops.size = none := by
        rw [look_congr (s' := fun _ => false) _ fun j hj hw => ?_]
        · generalize ops.size = m
          induction m with
          | zero => rfl
          | succ m ih => unfold look; exact ih
        · obtain ⟨x, hx, hxm⟩ := wmem j s hw
          exact absurd hxm (h2 x (List.mem_of_getElem? hx))
      rw [hS_get, h1, hn]; rfl
    -- the state with k
    have sel : (fun j => (listed.setIfInBounds k true).getD j false) = fun j => if j = k then true else listed.getD j false := funext fun j => by
      by_cases e : j = k
      · subst e; rw [if_pos rfl]; exact getD_set_same hls
      · rw [if_neg e]; exact getD_set_ne false (Ne.symm e)
    have tmk : ∀ (l : Array Bool) (v : V), v = rc.v → putV (tmS ops rs tm0 (fun j => listed.getD j false) ops.size) o.dst v = tmS ops rs tm0 (fun j => (listed.setIfInBounds k true).getD j false) ops.size := fun _ v hv => by
      subst hv
      rw [sel]
      refine List.ext_getElem? fun t => ?_
      rw [tmS_get, look_more (wf := fun n => wT ops rs n t) (s := fun j => listed.getD j false) hun ops.size hlt fun j hj hgt hl hw => ?_]
      · have hwk : wT ops rs k t = if o.dst = some t then some rc.v else none := by simp only [wT, ho, hrk]
        rw [hwk]
        by_cases hd : o.dst = some t
        · rw [if_pos hd, hd]
          simp only [putV, Option.getD_some]
          rw [List.getElem?_set, if_pos rfl]
          have := tmS_get ops rs tm0 (fun j => listed.getD j false) t ops.size
          cases h0' : tm0[t]? with
          | none =>
            rw [h0'] at this
            simp only [Option.map_none] at this ⊢
            rw [if_neg]
            intro hl
            rw [List.getElem?_eq_getElem hl] at this; cases this
          | some y =>
            rw [h0'] at this
            simp only [Option.map_some] at this ⊢
            rw [if_pos (get_lt this)]
        · rw [if_neg hd]
          simp only []
          rw [← tmS_get]
          cases hdd : o.dst with
          | none => rfl
          | some d =>
            simp only [putV]
            rw [List.getElem?_set_ne (fun e => hd (by rw [hdd, e]))]
      · -- no other operation writes the slot
        simp only [wT, ho, hrk] at hw
        have hd : o.dst = some t := by
          by_cases hd : o.dst = some t
          · exact hd
          · rw [if_neg hd] at hw; exact absurd rfl hw
        simp only [wT]
        cases hoj : ops[j]? with
        | none => rfl
        | some oj =>
          cases hrj : rs[j]? with
          | none => rfl
          | some rj =>
            simp only []
            rw [if_neg (hok.once j k oj o t hoj ho (by omega) hd)]
    have hk' : wrs (hS rs h0 (fun j => listed.getD j false) ops.size) rc.wr = hS rs h0 (fun j => (listed.setIfInBounds k true).getD j false) ops.size := by
      rw [sel]
      refine List.ext_getElem? fun i => ?_
      rw [hS_get, look_more (wf := fun n => wH rs n i) (s := fun j => listed.getD j false) hun ops.size hlt fun j hj hgt hl hw => ?_]
      · rw [wrs_get, hS_get]
        have hwk : wH rs k i = wAt i rc.wr := by simp only [wH, hrk, Option.bind_some]
        rw [hwk]
        cases wAt i rc.wr with
        | none => cases h0[i]? <;> rfl
        | some x => cases h0[i]? <;> rfl
      · exact Classical.byContradiction fun hne => by
          obtain ⟨x, hx, hxm⟩ := wmem j i hne
          obtain ⟨y, hy, hym⟩ := wmem k i hw
          rw [hrk] at hy; cases hy
          have := down j (anc k j rc x hgt hrk hx i (.inr ⟨hxm, hwr i hym⟩))
          rw [hl] at this; cases this
    have hshut : ∀ j oj, ops[j]? = some oj → (listed.setIfInBounds k true).getD j false = true → ∀ e ∈ oj.after, Region.binds .any e = true → (listed.setIfInBounds k true).getD e.on false = true := fun j oj hj hl e he hb => by
      have hmono : ∀ j, listed.getD j false = true → (listed.setIfInBounds k true).getD j false = true := fun j hj => by
        by_cases e : j = k
        · rw [e]; exact getD_set_same hls
        · rw [getD_set_ne false (Ne.symm e)]; exact hj
      by_cases e2 : j = k
      · subst e2
        rw [ho] at hj; cases hj
        exact hmono _ (hr e he hb)
      · rw [getD_set_ne false (Ne.symm e2)] at hl
        exact hmono _ (h.shut j oj hj hl e he hb)
    have hleft : left ops.size (listed.setIfInBounds k true) ≤ fuel := by have := left_set hls hun (n := ops.size) hlt; omega
    have go : ∀ {φ' : List Pl} {w' : World} {u : Value}, Ext φ w φ' w' → Inv F φ' w' (wrs (hS rs h0 (fun j => listed.getD j false) ops.size) rc.wr) → Den F φ' w' u rc.v →
        wpAny P .any ops Q fuel (listed.setIfInBounds k true) (a.put o.dst u) w' := fun he' hi' hd => by
      refine ih _ _ _ hleft ⟨by simp [h.size], hshut, by rw [put_defers]; exact h.defers, _, he.trans hi0 he', ?_, ?_⟩
      · rw [← hk']; exact hi'
      · rw [← tmk listed rc.v rfl]; exact (ht.ext he').put hd
    unfold wpOp
    rw [ho]
    simp only []
    rcases hs F φ w a _ _ hK hi ht hT hH hY with ⟨hw, hg⟩ | ⟨hw, hv, hwr0⟩
    · rw [if_pos hw]
      refine .inl ?_
      unfold Oper.wp
      cases hrun : (execOp a.eval o).run P w with
      | halt x w' => rw [hrun] at hg; exact hg.elim
      | ok n w' =>
        rw [hrun] at hg
        cases n <;> simp only [Gd] at hg
        · obtain ⟨φ', h1, h2, h3⟩ := hg
          exact go h1 h2 h3
        · obtain ⟨hv, φ', h1, h2⟩ := hg
          exact go h1 h2 (by rw [hv]; exact den_undef)
        · refine Calls.mono hg ?_
          rintro e w'' ⟨u, φ', rfl, h1, h2, h3⟩
          exact go h1 h2 h3
    · rw [if_neg (by rw [hw]; simp)]
      refine go (.refl φ w) ?_ (by rw [hv]; exact den_undef)
      rw [hwr0]; exact hi
end

section
open Go Go.RowKit
set_option linter.unusedVariables false
set_option linter.unusedSimpArgs false
variable {F : Fr} {P : Program} {K : Nat → Obj → Prop}

/-- The callee's numbers are those of ρ; behind them none. -/
def gB (ρ : List Nat) (B i : Nat) : Nat := (ρ[i]?).getD (B + i)

/-- Numbers that no object has may be told otherwise. -/
theorem Den.reg {F : Fr} {φ : List Pl} {w : World} {g g' : Nat → Nat} (hg : ∀ i, lv φ (g i) → g' i = g i) {r : Value} {u : V} (hd : Den F φ w r u) : ∀ v, u = renV g v → Den F φ w r (renV g' v) := by
  induction hd with
  | d h => intro v e; cases v <;> simp only [renV, reduceCtorEq] at e <;> cases e; exact .d h
  | agg hs h1 _ ih =>
    intro v e; cases v <;> simp only [renV, reduceCtorEq] at e
    cases e
    refine .agg (by rw [hs, renL_len, renL_len]) h1 fun i r v hr hv => ?_
    rw [renL_get] at hv
    obtain ⟨x, hx, rfl⟩ := Option.map_eq_some_iff.1 hv
    exact ih i r _ hr (by rw [renL_get, hx]; rfl) x rfl
  | tup hs _ ih =>
    intro v e; cases v <;> simp only [renV, reduceCtorEq] at e
    cases e
    refine .tup (by rw [hs, renL_len, renL_len]) fun i r v hr hv => ?_
    rw [renL_get] at hv
    obtain ⟨x, hx, rfl⟩ := Option.map_eq_some_iff.1 hv
    exact ih i r _ hr (by rw [renL_get, hx]; rfl) x rfl
  | own ht h hn hpl hf ho =>
    intro v e; cases v <;> simp only [renV, reduceCtorEq] at e
    cases e
    rw [renV, hg _ ht]
    exact .own ht h hn hpl hf ho
  | ownEx ht hh h hn =>
    intro v e; cases v <;> simp only [renV, reduceCtorEq] at e
    cases e
    rw [renV, hg _ ht]
    exact .ownEx ht hh h hn
  | full h hn => intro v e; cases v <;> simp only [renV, reduceCtorEq] at e <;> cases e; exact .full h hn
  | ptr ho h =>
    intro v e; cases v <;> simp only [renV, reduceCtorEq] at e
    cases e
    rw [renV, hg _ ho]
    exact .ptr ho h
  | ep c ha hc hd => intro v e; cases v <;> simp only [renV, reduceCtorEq] at e <;> cases e; exact .ep c ha hc hd
  | hs ho h hcap hf =>
    intro v e; cases v <;> simp only [renV, reduceCtorEq] at e
    cases e
    rw [renV, hg _ ho]
    exact .hs ho h hcap hf
  | hsE ho ha hcap hsp =>
    intro v e; cases v <;> simp only [renV, reduceCtorEq] at e
    cases e
    rw [renV, hg _ ho]
    exact .hsE ho ha hcap hsp
  | hsN ho h =>
    intro v e; cases v <;> simp only [renV, reduceCtorEq] at e
    cases e
    rw [renV, hg _ ho]
    exact .hsN ho h
  | any => intro v e; cases v <;> simp only [renV, reduceCtorEq] at e; exact .any
  | ub => intro v e; cases v <;> simp only [renV, reduceCtorEq] at e; exact .ub
  | mp ho h =>
    intro v e; cases v <;> simp only [renV, reduceCtorEq] at e
    cases e
    rw [renV, hg _ ho]
    exact .mp ho h
  | fn hs _ ih =>
    intro v e; cases v <;> simp only [renV, reduceCtorEq] at e
    cases e
    refine .fn (by rw [hs, renL_len, renL_len]) fun i r v hr hv => ?_
    rw [renL_get] at hv
    obtain ⟨x, hx, rfl⟩ := Option.map_eq_some_iff.1 hv
    exact ih i r _ hr (by rw [renL_get, hx]; rfl) x rfl
theorem ObOk.reg {F : Fr} {φ : List Pl} {w : World} {g g' : Nat → Nat} (hg : ∀ i, lv φ (g i) → g' i = g i) {p : Pl} {o : Ho} (h : ObOk F φ w p (renO g o)) : ObOk F φ w p (renO g' o) := by
  cases p <;> cases o <;> first | exact h.elim | skip
  · obtain ⟨arr, a, z0, b, c⟩ := h
    refine ⟨arr, a, z0, by rw [renL_len] at b ⊢; exact b, fun j v hv => ?_⟩
    rw [renL_get] at hv
    obtain ⟨x, hx, rfl⟩ := Option.map_eq_some_iff.1 hv
    obtain ⟨u, h1, h2, h3⟩ := c j _ (by rw [renL_get, hx]; rfl)
    exact ⟨u, h1, h2, h3.reg hg x rfl⟩
  · obtain ⟨ents, clock, a, b, c⟩ := h
    refine ⟨ents, clock, a, by simpa [GM.mapV] using b, fun j m e hm he => ?_⟩
    simp only [GM.mapV, List.getElem?_map] at he
    obtain ⟨x, hx, rfl⟩ := Option.map_eq_some_iff.1 he
    obtain ⟨h1, h2⟩ := c j m ⟨x.born, x.key, renV g x.val⟩ hm (by simp only [GM.mapV, List.getElem?_map, hx]; rfl)
    exact ⟨h1, h2.reg hg x.val rfl⟩
  all_goals first
    | exact h
    | (rename_i cs; cases cs with
      | nil => rfl
      | cons a l => simp [ObOk, renO, renL] at h)

theorem Sp.frameR {f : FuncId} {vs vs' : List V} {h hl : List Ho} {R N : V → List Ho → Prop} (hs : Sp P K f vs' hl R) (ρ fr : List Nat) (hn : (ρ ++ fr).Nodup) (hlen : ρ.length = hl.length)
    (hyet : ∀ j ∈ fr, h[j]? = some .yet) (hcount : ∀ v hl', R v hl' → hl'.length = (ρ ++ fr).length)
    (hpick : ∀ (B i j : Nat) (o : Ho), ρ[i]? = some j → hl[i]? = some o → h[j]? = some (renO (gB (ρ ++ fr) B) o))
    (hb : ∀ j ∈ ρ, j < h.length)
    (hv : ∀ (B : Nat) (F : Fr) (φ : List Pl) (w : World) (rs : List Value), DenL F φ w rs vs → DenL F φ w rs (vs'.map (renV (gB (ρ ++ fr) B))))
    (hk : ∀ (v : V) (hl' : List Ho), R v hl' → N (renV (gB (ρ ++ fr) 0) v) (setAll h (ρ ++ fr) (hl'.map (renO (gB (ρ ++ fr) 0))))) : Sp P K f vs h N := by
  intro F φ w args hK hi hd
  have hφ : ∀ j ∈ ρ, j < φ.length := fun j hj => by rw [hi.len]; exact hb j hj
  have hyφ : ∀ j ∈ fr, φ[j]? = some .yet := fun j hj => by
    have h1 := hyet j hj
    obtain ⟨p, hp⟩ := ofLtL (xs := φ) (i := j) (by rw [hi.len]; exact get_lt h1)
    have := hi.ok j p _ hp h1
    cases p <;> first | exact this.elim | exact hp
  have hφ' : ∀ j ∈ ρ ++ fr, j < φ.length := fun j hj => by
    rcases List.mem_append.1 hj with hj | hj
    · exact hφ j hj
    · exact get_lt (hyφ j hj)
  have hnρ : ρ.Nodup := (List.nodup_append.1 hn).1
  -- a number that has an object is one of ρ's
  have gin0 : ∀ i, lv φ (gB (ρ ++ fr) φ.length i) → ∃ j, ρ[i]? = some j ∧ gB (ρ ++ fr) φ.length i = j := fun i ⟨p, hp, hne⟩ => by
    unfold gB at hp ⊢
    cases hr : (ρ ++ fr)[i]? with
    | none => rw [hr] at hp; have := get_lt hp; simp only [Option.getD_none] at this; omega
    | some j =>
      rw [hr] at hp
      by_cases hlt : i < ρ.length
      · rw [List.getElem?_append_left hlt] at hr
        exact ⟨j, hr, rfl⟩
      · rw [List.getElem?_append_right (by omega)] at hr
        have := hyφ j (List.mem_of_getElem? hr)
        simp only [Option.getD_some] at hp
        rw [this] at hp; cases hp; exact absurd rfl hne
  let φl : List Pl := ρ.map fun j => (φ[j]?).getD .dead
  have hφl : ∀ i : Nat, φl[i]? = (ρ[i]?).bind fun j => φ[j]? := fun i => by
    simp only [φl, List.getElem?_map]
    cases hr : ρ[i]? with
    | none => rfl
    | some j =>
      obtain ⟨p, hp⟩ := ofLtL (hφ j (List.mem_of_getElem? hr))
      simp [hp]
  have hlφ : φl.length = ρ.length := by simp [φl]
  let F' : Fr := ⟨fun b o => F.shut b o ∨ ∃ (j : Nat) (p : Pl), φ[j]? = some p ∧ j ∉ ρ ∧ ((∃ z, p = .obj b z) ∨ ∃ e, p = .tail b e ∧ e ≤ o), F.known⟩
  have old : ∀ (i : Nat) (p : Pl), φl[i]? = some p → ∃ j, ρ[i]? = some j ∧ φ[j]? = some p := fun i p hp => by
    rw [hφl] at hp
    cases hr : ρ[i]? with
    | none => rw [hr] at hp; cases hp
    | some j => rw [hr] at hp; exact ⟨j, rfl, hp⟩
  have pdown : ∀ b o, prot F φ w b o → prot F' φl w b o := fun b o ⟨h1, h2, h3, h4⟩ =>
    ⟨h1, fun i hi' => by obtain ⟨j, _, hj⟩ := old i _ hi'; exact h2 j hj, fun i e hi' => by obtain ⟨j, _, hj⟩ := old i _ hi'; exact h3 j e hj, fun hF => by
      rcases hF with hF | ⟨j, p, hj, _, ⟨z, rfl⟩ | ⟨e, rfl, hle⟩⟩
      · exact h4 hF
      · exact h2 j hj
      · have := h3 j e hj; omega⟩
  have gdown : ∀ i, lv φ (gB (ρ ++ fr) φ.length i) → lv φl i ∧ φl[i]? = φ[gB (ρ ++ fr) φ.length i]? := fun i hlv => by
    obtain ⟨j, hr, e1⟩ := gin0 i hlv
    obtain ⟨p, hp, hne⟩ := hlv
    rw [e1] at hp ⊢
    have e : φl[i]? = φ[j]? := by rw [hφl, hr]; rfl
    exact ⟨⟨p, by rw [e]; exact hp, hne⟩, e⟩
  have hinvl : Inv F' φl w hl := by
    refine ⟨by rw [hlφ, hlen], fun i p o hp ho => ?_, fun i j p q b hp hq hb1 hb2 => ?_, fun b o hF => ?_, fun i p b o hp hb1 hF => ?_, fun b x hx => ?_⟩
    · obtain ⟨j, hr, hj⟩ := old i p hp
      have hok := hi.ok j p _ hj (hpick φ.length i j o hr ho)
      cases p <;> cases o <;> simp only [ObOk, renO] at hok ⊢
      · obtain ⟨arr, hr, hz, hl, hd⟩ := hok
        refine ⟨arr, hr, hz, by rw [renL_len] at hl; exact hl, fun k v hv => ?_⟩
        obtain ⟨u, h1, h2, h3⟩ := hd k _ (by rw [renL_get, hv]; rfl)
        exact ⟨u, h1, h2, h3.down pdown gdown v rfl⟩
      · obtain ⟨ents, clock, hr, hl, hd⟩ := hok
        refine ⟨ents, clock, hr, by simpa [GM.mapV] using hl, fun k m e hm he => ?_⟩
        obtain ⟨h1, h2⟩ := hd k m ⟨e.born, e.key, renV _ e.val⟩ hm (by simp only [GM.mapV, List.getElem?_map, he]; rfl)
        exact ⟨h1, h2.down pdown gdown _ rfl⟩
      · exact hok
      · rename_i cs; cases cs with
        | nil => rfl
        | cons a l => simp [renL] at hok
    · obtain ⟨i', hr, hj⟩ := old i p hp
      obtain ⟨j', hr', hj'⟩ := old j q hq
      have := hi.apart i' j' p q b hj hj' hb1 hb2
      subst this
      exact (List.getElem?_inj (get_lt hr) hnρ).1 (by rw [hr, hr'])
    · rcases hF with hF | ⟨j, p, hj, _, ⟨z, rfl⟩ | ⟨e, rfl, hle⟩⟩
      · exact hi.frB b o hF
      · exact hi.lt hj rfl
      · exact hi.lt hj rfl
    · obtain ⟨i', hr, hi'⟩ := old i p hp
      rcases hF with hF | ⟨j, q, hj, hjn, hq⟩
      · exact hi.frO i' p b o hi' hb1 hF
      · have : i' = j := hi.apart i' j p q b hi' hj hb1 (by rcases hq with ⟨z, rfl⟩ | ⟨e, rfl, _⟩ <;> rfl)
        subst this
        exact hjn (List.mem_of_getElem? hr)
    · obtain ⟨h1, h2⟩ := hi.frK b x hx
      exact ⟨h1, fun i p hp => by obtain ⟨j, _, hj⟩ := old i p hp; exact h2 j p hj⟩
  have hdl : DenL F' φl w args.toList vs' := by
    have h1 := hv φ.length F φ w _ hd
    refine .of_get (by have := h1.length; simpa using this) fun i r v hr hvv => ?_
    exact (h1.get i r _ hr (by rw [List.getElem?_map, hvv]; rfl)).down pdown gdown v rfl
  refine (hs F' φl w args hK hinvl hdl).mono ?_
  rintro e w' ⟨u, φl', v, hl', rfl, he, hil, hdv, hR⟩
  have hcl : hl'.length = (ρ ++ fr).length := hcount v hl' hR
  have hcp : φl'.length = (ρ ++ fr).length := by rw [hil.len, hcl]
  let φ' : List Pl := setAll φ (ρ ++ fr) φl'
  have hlen' : φ'.length = φ.length := setAll_len _ _ _
  have gin : ∀ (i j : Nat), (ρ ++ fr)[i]? = some j → φ'[j]? = φl'[i]? := fun i j hr => setAll_at _ _ φ hn hcp.symm hφ' i j hr
  have gout : ∀ j, j ∉ ρ ++ fr → φ'[j]? = φ[j]? := fun j hjn => setAll_not _ _ φ j hjn
  have src : ∀ (x : Nat) (p : Pl), φ'[x]? = some p → (∃ i, φl'[i]? = some p ∧ (ρ ++ fr)[i]? = some x) ∨ (x ∉ ρ ++ fr ∧ φ[x]? = some p) := fun x p hp => by
    by_cases hm : x ∈ ρ ++ fr
    · obtain ⟨i, hi'⟩ := List.mem_iff_getElem?.1 hm
      exact .inl ⟨i, by rw [← gin i x hi']; exact hp, hi'⟩
    · exact .inr ⟨hm, by rw [← gout x hm]; exact hp⟩
  have gup : ∀ i, lv φl' i → lv φ' (gB (ρ ++ fr) φ.length i) ∧ φ'[gB (ρ ++ fr) φ.length i]? = φl'[i]? := fun i hlv => by
    obtain ⟨p, hp, hne⟩ := hlv
    obtain ⟨j, hj⟩ := ofLtL (xs := ρ ++ fr) (i := i) (by rw [← hcp]; exact get_lt hp)
    have e1 : gB (ρ ++ fr) φ.length i = j := by unfold gB; rw [hj]; rfl
    have e := gin i j hj
    rw [e1]
    exact ⟨⟨p, by rw [e]; exact hp, hne⟩, e⟩
  have gz : ∀ i, lv φ' (gB (ρ ++ fr) φ.length i) → gB (ρ ++ fr) 0 i = gB (ρ ++ fr) φ.length i := fun i ⟨p, hp, _⟩ => by
    unfold gB at hp ⊢
    cases hr : (ρ ++ fr)[i]? with
    | some j => rfl
    | none => rw [hr] at hp; have := get_lt hp; simp only [Option.getD_none, hlen'] at this; omega
  have nofr : ∀ j ∈ fr, ∀ p, φ[j]? = some p → p = .yet := fun j hj p hp => by rw [hyφ j hj] at hp; cases hp; rfl
  have notin : ∀ (j : Nat) (p : Pl) (b : Nat), φ[j]? = some p → j ∉ ρ → p.blk = some b → ∀ (i : Nat) (q : Pl), φl[i]? = some q → q.blk ≠ some b := fun j p b hj hjn hpb i q hq hqb => by
    obtain ⟨i', hr, hi'⟩ := old i q hq
    have := hi.apart i' j q p b hi' hj hqb hpb
    subst this
    exact hjn (List.mem_of_getElem? hr)
  have oldl : ∀ (i : Nat) (p : Pl) (b : Nat), φl'[i]? = some p → p.blk = some b → b < w.heap.size → ∃ (j : Nat) (q : Pl), j ∈ ρ ∧ φ[j]? = some q ∧ q.blk = some b := fun i p b hp hpb hlt => by
    have h0 : ∃ (i' : Nat) (q : Pl), φl[i']? = some q ∧ q.blk = some b := by
      cases p with
      | obj b' z => cases hpb; obtain ⟨j, _, hj⟩ := he.objs i b hp hlt; exact ⟨j, _, hj, rfl⟩
      | tail b' e' =>
        cases hpb
        rcases he.tails i b e' hp hlt with ⟨j, e2, hj, _⟩ | ⟨j, _, hj⟩
        · exact ⟨j, _, hj, rfl⟩
        · exact ⟨j, _, hj, rfl⟩
      | free => cases hpb
      | dead => cases hpb
      | yet => cases hpb
    obtain ⟨i', q, hq, hqb⟩ := h0
    obtain ⟨j, hr, hj⟩ := old i' q hq
    exact ⟨j, q, List.mem_of_getElem? hr, hj, hqb⟩
  have hext : Ext φ w φ' w' := by
    refine ⟨he.size, by rw [hlen']; omega, fun x hx => ?_, fun b hlt hno => ?_, fun x b e2 hx c T fr' hc => ?_, fun x b hp hlt => ?_, fun x b e' hp hlt => ?_, he.io⟩
    · obtain ⟨p, hp, hne⟩ := hx
      by_cases hm : x ∈ ρ
      · obtain ⟨i, hi'⟩ := List.mem_iff_getElem?.1 hm
        have hi2 : (ρ ++ fr)[i]? = some x := by rw [List.getElem?_append_left (get_lt hi')]; exact hi'
        rw [gin i x hi2]
        have e : φl[i]? = φ[x]? := by rw [hφl, hi']; rfl
        have := he.old i ⟨p, by rw [e]; exact hp, hne⟩
        rw [e] at this
        exact this
      · have hmf : x ∉ fr := fun h => hne (nofr x h p hp)
        exact .inl (gout x (by simp [hm, hmf]))
    · exact he.keep b hlt fun i p hp => by obtain ⟨j, _, hj⟩ := old i p hp; exact hno j p hj
    · by_cases hm : x ∈ ρ
      · obtain ⟨i, hi'⟩ := List.mem_iff_getElem?.1 hm
        exact he.tail i b e2 (by rw [hφl, hi']; exact hx) c T fr' hc
      · refine ⟨c, ?_, rfl, fun _ _ => rfl⟩
        rw [he.keep b (heap_lt hc) (notin x _ b hx hm rfl)]; exact hc
    · rcases src x _ hp with ⟨i, hi', _⟩ | ⟨_, hx⟩
      · obtain ⟨j, _, hj⟩ := he.objs i b hi' hlt
        obtain ⟨j', _, hj'⟩ := old j _ hj
        exact ⟨j', _, hj'⟩
      · exact ⟨x, _, hx⟩
    · rcases src x _ hp with ⟨i, hi', _⟩ | ⟨_, hx⟩
      · rcases he.tails i b e' hi' hlt with ⟨j, e2, hj, hle⟩ | ⟨j, _, hj⟩
        · obtain ⟨j', _, hj'⟩ := old j _ hj
          exact .inl ⟨j', e2, hj', hle⟩
        · obtain ⟨j', _, hj'⟩ := old j _ hj
          exact .inr ⟨j', _, hj'⟩
      · exact .inl ⟨x, e', hx, Nat.le_refl _⟩
  have pup : ∀ b o, prot F' φl' w' b o → prot F φ' w' b o := fun b o ⟨h1, h2, h3, h4⟩ => by
    refine ⟨h1, fun x hx => ?_, fun x e2 hx => ?_, fun hF => h4 (.inl hF)⟩
    · rcases src x _ hx with ⟨i, hi', _⟩ | ⟨hjn, hx'⟩
      · exact h2 i hi'
      · exact h4 (.inr ⟨x, _, hx', fun hm => hjn (List.mem_append.2 (.inl hm)), .inl ⟨_, rfl⟩⟩)
    · rcases src x _ hx with ⟨i, hi', _⟩ | ⟨hjn, hx'⟩
      · exact h3 i e2 hi'
      · by_cases hle : e2 ≤ o
        · exact absurd (.inr ⟨x, _, hx', fun hm => hjn (List.mem_append.2 (.inl hm)), .inr ⟨e2, rfl, hle⟩⟩) h4
        · omega
  have hmapl : (hl'.map (renO (gB (ρ ++ fr) 0))).length = (ρ ++ fr).length := by simp [hcl]
  have hbh : ∀ j ∈ ρ ++ fr, j < h.length := fun j hj => by rw [← hi.len]; exact hφ' j hj
  have hobj : ∀ (x : Nat) (o : Ho), (setAll h (ρ ++ fr) (hl'.map (renO (gB (ρ ++ fr) 0))))[x]? = some o → (∃ (i : Nat) (o' : Ho), hl'[i]? = some o' ∧ (ρ ++ fr)[i]? = some x ∧ o = renO (gB (ρ ++ fr) 0) o') ∨ (x ∉ ρ ++ fr ∧ h[x]? = some o) := fun x o ho => by
    by_cases hm : x ∈ ρ ++ fr
    · obtain ⟨i, hi'⟩ := List.mem_iff_getElem?.1 hm
      rw [setAll_at _ _ h hn hmapl.symm hbh i x hi', List.getElem?_map] at ho
      obtain ⟨o', ho', rfl⟩ := Option.map_eq_some_iff.1 ho
      exact .inl ⟨i, o', ho', hi', rfl⟩
    · rw [setAll_not _ _ h x hm] at ho
      exact .inr ⟨hm, ho⟩
  have inj : ∀ (i j x : Nat), (ρ ++ fr)[i]? = some x → (ρ ++ fr)[j]? = some x → i = j := fun i j x h1 h2 => (List.getElem?_inj (get_lt h1) hn).1 (by rw [h1, h2])
  have hinv : Inv F φ' w' (setAll h (ρ ++ fr) (hl'.map (renO (gB (ρ ++ fr) 0)))) := by
    refine ⟨?_, fun x p o hp ho => ?_, fun x y p q b hp hq hb1 hb2 => ?_, fun b o hF => Nat.lt_of_lt_of_le (hi.frB b o hF) he.size, fun x p b o hp hb1 hF => ?_, fun b y hy => ?_⟩
    · rw [hlen', setAll_len, hi.len]
    · rcases src x p hp with ⟨i, hi', hxi⟩ | ⟨hm, hx'⟩
      · rcases hobj _ o ho with ⟨i2, o', ho', e1, rfl⟩ | ⟨h2, _⟩
        · have := inj _ _ _ hxi e1
          subst this
          have hok := hil.ok i p o' hi' ho'
          refine ObOk.reg gz ?_
          cases p <;> cases o' <;> simp only [ObOk, renO] at hok ⊢
          · obtain ⟨arr, hr, hz, hl, hd⟩ := hok
            refine ⟨arr, hr, hz, by rw [renL_len]; exact hl, fun k v hv => ?_⟩
            rw [renL_get] at hv
            obtain ⟨y, hy, rfl⟩ := Option.map_eq_some_iff.1 hv
            obtain ⟨u, h1, h2, h3⟩ := hd k y hy
            exact ⟨u, h1, h2, h3.up pup gup⟩
          · obtain ⟨ents, clock, hr, hl, hd⟩ := hok
            refine ⟨ents, clock, hr, by simpa [GM.mapV] using hl, fun k m e hm he => ?_⟩
            simp only [GM.mapV, List.getElem?_map] at he
            obtain ⟨y, hy, rfl⟩ := Option.map_eq_some_iff.1 he
            obtain ⟨h1, h2⟩ := hd k m y hm hy
            exact ⟨h1, h2.up pup gup⟩
          · exact hok
          · subst hok; rfl
        · exact absurd (List.mem_of_getElem? hxi) h2
      · rcases hobj x o ho with ⟨i2, o', ho', e1, rfl⟩ | ⟨h2, ho'⟩
        · exact absurd (List.mem_of_getElem? e1) hm
        · exact (hi.ok x p o hx' ho').ext hext fun b hpb => he.keep b (hi.lt hx' hpb) (notin x p b hx' (fun h => hm (List.mem_append.2 (.inl h))) hpb)
    · rcases src x p hp with ⟨i, hi', hxi⟩ | ⟨hm, hx'⟩ <;> rcases src y q hq with ⟨j, hj', hyj⟩ | ⟨hm2, hy'⟩
      · have := hil.apart i j p q b hi' hj' hb1 hb2
        subst this
        rw [hxi] at hyj; cases hyj; rfl
      · exfalso
        have hlt := hi.lt hy' hb2
        obtain ⟨j, q', hjm, hj, hqb⟩ := oldl i p b hi' hb1 hlt
        have := hi.apart j y q' q b hj hy' hqb hb2
        subst this; exact hm2 (List.mem_append.2 (.inl hjm))
      · exfalso
        have hlt := hi.lt hx' hb1
        obtain ⟨j', q', hjm, hj, hqb⟩ := oldl j q b hj' hb2 hlt
        have := hi.apart j' x q' p b hj hx' hqb hb1
        subst this; exact hm (List.mem_append.2 (.inl hjm))
      · exact hi.apart x y p q b hx' hy' hb1 hb2
    · rcases src x p hp with ⟨i, hi', _⟩ | ⟨hm, hx'⟩
      · exact hil.frO i p b o hi' hb1 (.inl hF)
      · exact hi.frO x p b o hx' hb1 hF
    · obtain ⟨h1, h2⟩ := hil.frK b y hy
      refine ⟨h1, fun x p hp => ?_⟩
      rcases src x p hp with ⟨i, hi', _⟩ | ⟨hm, hx'⟩
      · exact h2 i p hi'
      · exact (hi.frK b y hy).2 x p hx'
  exact ⟨u, φ', _, _, rfl, hext, hinv, (hdv.up pup gup).reg gz v rfl, hk v hl' hR⟩
end
end Go.Proofs.YtonllhjmoenckaaDoor
