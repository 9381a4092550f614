/- Walk through clock.Merge. -/
import Derived.Test.YtfcbpdokilidgaaClk
namespace Go.Proofs.Ytfcbpdokilidgaa
open Go.RowKit
set_option linter.unusedVariables false
set_option linter.unusedSimpArgs false

/-- A box that holds a clock. -/
def Bx (w : World) (b : Nat) (c : Clk) : Prop := w.heap[b]? = some (.cells #[.int .i64 c.x, .int .i64 c.y, .int .i64 c.z] 54)

section
variable {w : World} {b : Nat} {c : Clk}
theorem Bx.c0 (h : Bx w b c) : w.cell? ⟨b, 0, none⟩ = some (.int .i64 c.x) := (cell_of_row w b 0 _ _ _ h).trans rfl
theorem Bx.c1 (h : Bx w b c) : w.cell? ⟨b, 1, none⟩ = some (.int .i64 c.y) := (cell_of_row w b 1 _ _ _ h).trans rfl
theorem Bx.c2 (h : Bx w b c) : w.cell? ⟨b, 2, none⟩ = some (.int .i64 c.z) := (cell_of_row w b 2 _ _ _ h).trans rfl
theorem Bx.fr (h : Bx w b c) (j : Nat) : w.frozen? ⟨b, j, none⟩ = false := by unfold Bx at h; simp [World.frozen?, h]
theorem Bx.set0 (h : Bx w b c) (n : Int) : Bx (w.setCell ⟨b, 0, none⟩ (.int .i64 n)) b ⟨n, c.y, c.z⟩ := (heap_setCell_same w b 0 _ _ _ h).trans rfl
theorem Bx.set1 (h : Bx w b c) (n : Int) : Bx (w.setCell ⟨b, 1, none⟩ (.int .i64 n)) b ⟨c.x, n, c.z⟩ := (heap_setCell_same w b 1 _ _ _ h).trans rfl
theorem Bx.set2 (h : Bx w b c) (n : Int) : Bx (w.setCell ⟨b, 2, none⟩ (.int .i64 n)) b ⟨c.x, c.y, n⟩ := (heap_setCell_same w b 2 _ _ _ h).trans rfl
theorem Bx.other (h : Bx w b c) {a : Addr} (hb : b ≠ a.block) (v : Value) (_ : Unit := ()) : Bx (w.setCell a v) b c := (heap_setCell_other w a b v hb).trans h
theorem Bx.lt (h : Bx w b c) : b < w.heap.size := by
  rcases Nat.lt_or_ge b w.heap.size with h0 | h0
  · exact h0
  · unfold Bx at h; rw [Array.getElem?_eq_none h0] at h; cases h
theorem Bx.alloc (h : Bx w b c) (o : Obj) : Bx (w.alloc o) b c := (Below.heap_alloc w o b h.lt).trans h
theorem Bx.below {w' : World} (h : Bx w b c) (hb : Below w.heap.size w w') : Bx w' b c := (hb.block b h.lt).trans h
theorem Bx.new (w : World) (c : Clk) : Bx (w.alloc (.cells #[.int .i64 c.x, .int .i64 c.y, .int .i64 c.z] 54)) w.heap.size c := heap_alloc_new w _
end

def cc (c : Clk) : List Value := [.int .i64 c.x, .int .i64 c.y, .int .i64 c.z]
/-- A slice of clocks. -/
def Sc (w : World) (v : Value) (l : List Clk) : Prop := Sl w 3 v l.length (l.flatMap cc)
theorem Sc.below {w w' : World} {v : Value} {l : List Clk} (h : Sc w v l) (hb : Below w.heap.size w w') : Sc w' v l := Sl.below h hb
theorem flat_at (l : List Clk) (k j : Nat) (hk : k < l.length) (hj : j < 3) : (l.flatMap cc)[k * 3 + j]? = (cc l[k])[j]? := by
  induction l generalizing k with
  | nil => exact absurd hk (by simp)
  | cons c t ih =>
    cases k with
    | zero =>
      simp only [List.flatMap_cons, Nat.zero_mul, Nat.zero_add, List.getElem_cons_zero]
      rw [List.getElem?_append_left (by simp [cc]; omega)]
    | succ k =>
      simp only [List.flatMap_cons, List.getElem_cons_succ]
      rw [List.getElem?_append_right (by simp [cc]; omega)]
      have e : (k + 1) * 3 + j - (cc c).length = k * 3 + j := by simp [cc]; omega
      rw [e, ih k (by simpa using hk)]
theorem Sc.at_ {w : World} {A : Option Addr} {n c : Nat} {l : List Clk} (h : Sc w (.slice A n c) l) (k : Nat) (hk : k < l.length) :
    ∃ ad, A = some ad ∧ w.cell? (ad.add (k * 3)) = some (.int .i64 l[k].x) ∧ w.cell? ⟨(ad.add (k * 3)).block, (ad.add (k * 3)).off + 1, none⟩ = some (.int .i64 l[k].y) ∧ w.cell? ⟨(ad.add (k * 3)).block, (ad.add (k * 3)).off + 2, none⟩ = some (.int .i64 l[k].z) := by
  obtain ⟨A', c', hv, h1, h2, h3, h4⟩ := h
  injection hv with e1 e2 e3
  subst e1
  obtain ⟨ad, hA, _, hc⟩ := h4 (by omega)
  refine ⟨ad, hA, ?_, ?_, ?_⟩
  · exact hc (k * 3) _ (flat_at l k 0 hk (by omega))
  · have h0 := hc _ _ (flat_at l k 1 hk (by omega)); rw [← add_add_] at h0; exact h0
  · have h0 := hc _ _ (flat_at l k 2 hk (by omega)); rw [← add_add_] at h0; exact h0

def upd (f : Bool) (o n : Int) : Int := if f = true ∨ o < n then n else o
def updC (f : Bool) (o c : Clk) : Clk := ⟨upd f o.x c.x, upd f o.y c.y, upd f o.z c.z⟩
def mergeF : List Clk → Clk
  | [] => ⟨0, 0, 0⟩
  | c :: t => t.foldl (updC false) c
theorem merge_step (l : List Clk) (k : Nat) (h : k < l.length) : mergeF (l.take (k + 1)) = updC (k == 0) (mergeF (l.take k)) l[k] := by
  cases l with
  | nil => exact absurd h (by simp)
  | cons c t =>
    cases k with
    | zero => simp [mergeF, updC, upd]
    | succ k =>
      have hk : k < t.length := by simpa using h
      simp only [List.take_succ_cons, mergeF, List.getElem_cons_succ]
      rw [List.take_succ_eq_append_getElem hk, List.foldl_append]
      rfl

--TAIL
set_option maxRecDepth 100000 in
set_option maxHeartbeats 1000000 in
theorem merge_c (v : Value) (l : List Clk) (w : World) (h : Sc w v l) : Calls Try.prog 42 #[v] w (RetV w (cv (mergeF l))) := by
  obtain ⟨A, c, rfl, h1, h2⟩ := Sl.form h
  have H := Lib.hid h
  clear h
  go_enter Try.func42, Try.ntmps42
  go_wp2
  go_loopw [10] (fun i wr => ∃ k : Nat, k ≤ l.length ∧ i = .int .i64 k ∧ Hid (Below w.heap.size w wr) ∧ Hid (Bx wr w.heap.size ⟨0, 0, 0⟩) ∧ Hid (Bx wr (w.heap.size + 1) (mergeF (l.take k))) ∧ w.heap.size + 1 < wr.heap.size) (fun i _ => l.length - (intOf i).toNat)
  case atStart => 
    refine ⟨0, Nat.zero_le _, rfl, gthen (galloc _ _) (galloc _ _), ?_, ?_, ?_⟩
    · exact heap_alloc2_old _ _ _
    · exact heap_alloc2_new _ _ _
    · simp
  case round =>
    obtain ⟨k, hk, rfl, HB, HZ, HO, hsz⟩ := hrel
    by_cases hlt : k < l.length
    · obtain ⟨ad, rfl, c0, c1, c2⟩ := (H.out.below HB.out).at_ k hlt
      obtain ⟨cl, hcl⟩ : ∃ cl, l[k] = cl := ⟨_, rfl⟩
      obtain ⟨o, ho⟩ : ∃ o, mergeF (l.take k) = o := ⟨_, rfl⟩
      obtain ⟨f, hf⟩ : ∃ f, (k == 0) = f := ⟨_, rfl⟩
      have HN : Hid (mergeF (l.take (k + 1)) = updC f o cl) := by unfold Hid; rw [merge_step l k hlt, hf, ho, hcl]
      have HO2 : Hid (Bx wr (w.heap.size + 1) o) := by rw [← ho]; exact HO
      have hkf : ((k : Int) == 0) = f := by
        rw [← hf]
        by_cases h0 : k = 0
        · subst h0; rfl
        · rw [beq_eq_false_iff_ne.2 h0, beq_eq_false_iff_ne]; omega
      rw [hcl] at c0 c1 c2
      clear hcl ho hf HO
      have i0 : ∀ w, (Instr.index 54 (.agg #[.int .i64 cl.x, .int .i64 cl.y, .int .i64 cl.z]) (.int .i64 0)).run Try.prog w = .ok (.int .i64 cl.x) w := fun _ => by kernel_rfl
      have i1 : ∀ w, (Instr.index 54 (.agg #[.int .i64 cl.x, .int .i64 cl.y, .int .i64 cl.z]) (.int .i64 1)).run Try.prog w = .ok (.int .i64 cl.y) w := fun _ => by kernel_rfl
      have i2 : ∀ w, (Instr.index 54 (.agg #[.int .i64 cl.x, .int .i64 cl.y, .int .i64 cl.z]) (.int .i64 2)).run Try.prog w = .ok (.int .i64 cl.z) w := fun _ => by kernel_rfl
      go_wp2
      go_loopg [16] (3) (fun g j wi => Hid (Below w.heap.size w wi) ∧ Hid (Bx wi w.heap.size ⟨0, 0, 0⟩) ∧ w.heap.size + 1 < wi.heap.size ∧ ((g = 3 ∧ j = .int .i64 0 ∧ Hid (Bx wi (w.heap.size + 1) ⟨o.x, o.y, o.z⟩)) ∨ (g = 2 ∧ j = .int .i64 1 ∧ Hid (Bx wi (w.heap.size + 1) ⟨upd f o.x cl.x, o.y, o.z⟩)) ∨ (g = 1 ∧ j = .int .i64 2 ∧ Hid (Bx wi (w.heap.size + 1) ⟨upd f o.x cl.x, upd f o.y cl.y, o.z⟩)) ∨ (g = 0 ∧ j = .int .i64 3 ∧ Hid (Bx wi (w.heap.size + 1) ⟨upd f o.x cl.x, upd f o.y cl.y, upd f o.z cl.z⟩))))
      case atStart => exact ⟨HB.out.alloc HB.out.size _, Bx.alloc HZ.out _, by simp; omega, .inl ⟨rfl, rfl, Bx.alloc HO2.out _⟩⟩
      case round =>
        obtain ⟨XB, XZ, xs, hcase⟩ := hrel
        clear c0 c1 c2 HB HZ HO2 hsz
        rcases hcase with ⟨rfl, rfl, XO⟩ | ⟨rfl, rfl, XO⟩ | ⟨rfl, rfl, XO⟩ | ⟨rfl, rfl, XO⟩
        · have q0 := XO.out.c0
          have q1 := XO.out.fr 0
          cases f with
          | true =>
            go_wp2
            go_roundg 2
            case measure => omega
            case rel => exact ⟨XB.out.setCell (by simp) _, XZ.out.other (by simp) _, by simpa using xs, .inr (.inl ⟨rfl, rfl, by have h0 := XO.out.set0 cl.x; simpa [Hid, upd] using h0⟩)⟩
          | false =>
            by_cases hn : o.x < cl.x
            · go_wp2
              go_roundg 2
              case measure => omega
              case rel => exact ⟨XB.out.setCell (by simp) _, XZ.out.other (by simp) _, by simpa using xs, .inr (.inl ⟨rfl, rfl, by have h0 := XO.out.set0 cl.x; simpa [Hid, upd, hn] using h0⟩)⟩
            · go_wp2
              go_roundg 2
              case measure => omega
              case rel => exact ⟨XB, XZ, xs, .inr (.inl ⟨rfl, rfl, by unfold Hid; rw [show upd false o.x cl.x = o.x from if_neg (by simp <;> omega)]; exact XO.out⟩)⟩
        · have q0 := XO.out.c1
          have q1 := XO.out.fr 1
          cases f with
          | true =>
            go_wp2
            go_roundg 1
            case measure => omega
            case rel => exact ⟨XB.out.setCell (by simp) _, XZ.out.other (by simp) _, by simpa using xs, .inr (.inr (.inl ⟨rfl, rfl, by have h0 := XO.out.set1 cl.y; simpa [Hid, upd] using h0⟩))⟩
          | false =>
            by_cases hn : o.y < cl.y
            · go_wp2
              go_roundg 1
              case measure => omega
              case rel => exact ⟨XB.out.setCell (by simp) _, XZ.out.other (by simp) _, by simpa using xs, .inr (.inr (.inl ⟨rfl, rfl, by have h0 := XO.out.set1 cl.y; simpa [Hid, upd, hn] using h0⟩))⟩
            · go_wp2
              go_roundg 1
              case measure => omega
              case rel => exact ⟨XB, XZ, xs, .inr (.inr (.inl ⟨rfl, rfl, by unfold Hid; rw [show upd false o.y cl.y = o.y from if_neg (by simp <;> omega)]; exact XO.out⟩))⟩
        · have q0 := XO.out.c2
          have q1 := XO.out.fr 2
          cases f with
          | true =>
            go_wp2
            go_roundg 0
            case measure => omega
            case rel => exact ⟨XB.out.setCell (by simp) _, XZ.out.other (by simp) _, by simpa using xs, .inr (.inr (.inr ⟨rfl, rfl, by have h0 := XO.out.set2 cl.z; simpa [Hid, upd] using h0⟩))⟩
          | false =>
            by_cases hn : o.z < cl.z
            · go_wp2
              go_roundg 0
              case measure => omega
              case rel => exact ⟨XB.out.setCell (by simp) _, XZ.out.other (by simp) _, by simpa using xs, .inr (.inr (.inr ⟨rfl, rfl, by have h0 := XO.out.set2 cl.z; simpa [Hid, upd, hn] using h0⟩))⟩
            · go_wp2
              go_roundg 0
              case measure => omega
              case rel => exact ⟨XB, XZ, xs, .inr (.inr (.inr ⟨rfl, rfl, by unfold Hid; rw [show upd false o.z cl.z = o.z from if_neg (by simp <;> omega)]; exact XO.out⟩))⟩
        · go_wp2
          go_roundw
          case rel => exact ⟨k + 1, by omega, by go_num, XB, XZ, by unfold Hid; rw [HN.out]; exact XO.out, xs⟩
          case measure => simp [intOf]; omega
    · have HT : Hid (l.take k = l) := List.take_of_length_le (by omega)
      have q0 := HO.out.c0
      have q1 := HO.out.c1
      have q2 := HO.out.c2
      rw [HT.out] at q0 q1 q2
      generalize mergeF l = o at *
      have s1 := HZ.out.set0 o.x
      have s2 := s1.set1 o.y
      have s3 := s2.set2 o.z
      have y0 := HZ.out.c0
      have z0 := HZ.out.fr 0
      have y1 := s1.c1
      have z1 := s1.fr 1
      have y2 := s2.c2
      have z2 := s2.fr 2
      have S3 := Lib.hid s3
      clear s1 s2 s3
      go_wp2
      refine bodyPost_ret (v := cv o) (results_cell_row Try.results42 _ _ _ _ _ _ _ rfl S3.out Try.underlying54 rfl (by kernel_rfl)) rfl ⟨rfl, ((HB.out.setCell (Nat.le_refl _) _).setCell (Nat.le_refl _) _).setCell (Nat.le_refl _) _⟩
end Go.Proofs.Ytfcbpdokilidgaa
