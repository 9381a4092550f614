/- Walk through law 04's awake(). -/
import Derived.Test.YtfcbpdokilidgaaClkF
import Derived.Test.YtfcbpdokilidgaaApp
namespace Go.Proofs.Ytfcbpdokilidgaa
open Go.RowKit
set_option linter.unusedVariables false
set_option linter.unusedSimpArgs false
attribute [local go_sem] Gv

def E3 (B0 : Nat) (k : Nat) : World → World → Prop :=
  if k = 3 then Ea B0 5 (fun cs => cs = #[]) else if k = 5 then Ea B0 5 (fun _ => True) else if k = 12 then Ow B0 else Gr

theorem E3.refl (B0 k : Nat) (a : World) : E3 B0 k a a := by
  unfold E3
  split
  · exact Ea.refl _ _ _ _
  · split
    · exact Ea.refl _ _ _ _
    · split
      · exact Ow.refl _ _
      · exact Gr.refl _
theorem E3.below {B0 k : Nat} {a b : World} (hB : B0 ≤ a.heap.size) (h : E3 B0 k a b) : Below B0 a b := by
  unfold E3 at h
  split at h
  · exact h.below hB
  · split at h
    · exact h.below hB
    · split at h
      · exact h hB
      · exact Below.mono h hB
theorem E3.gr {B0 k : Nat} {a b : World} (h : Gr a b) (h3 : k ≠ 3) (h5 : k ≠ 5) (h12 : k ≠ 12) : E3 B0 k a b := by
  unfold E3; rw [if_neg h3, if_neg h5, if_neg h12]; exact h
theorem E3.to_gr {B0 k : Nat} {a b : World} (h : E3 B0 k a b) (h3 : k ≠ 3) (h5 : k ≠ 5) (h12 : k ≠ 12) : Gr a b := by
  unfold E3 at h; rwa [if_neg h3, if_neg h5, if_neg h12] at h
/-- What stands when memory grows stands in such a region, too, where the three that write are told of. -/
theorem st_E3 {ops : Array Oper} {B0 k : Nat} {S : Value → World → Prop} (hS : St Gr S) (h3 : Anc ops k 3 ∨ k = 3 ∨ St (E3 B0 3) S) (h5 : Anc ops k 5 ∨ k = 5 ∨ St (E3 B0 5) S) (h12 : Anc ops k 12 ∨ k = 12 ∨ St (E3 B0 12) S) :
    ∀ m, m ≠ k → Anc ops k m ∨ St (E3 B0 m) S := by
  intro m hm
  by_cases e3 : m = 3
  · subst e3
    rcases h3 with h | h | h
    · exact .inl h
    · exact absurd h.symm hm
    · exact .inr h
  · by_cases e5 : m = 5
    · subst e5
      rcases h5 with h | h | h
      · exact .inl h
      · exact absurd h.symm hm
      · exact .inr h
    · by_cases e12 : m = 12
      · subst e12
        rcases h12 with h | h | h
        · exact .inl h
        · exact absurd h.symm hm
        · exact .inr h
      · exact .inr fun u w w' h1 h2 => hS u w w' h1 (h2.to_gr e3 e5 e12)
theorem lin_E3 {ops : Array Oper} {B0 k n : Nat} {S : Value → World → Prop} (hS : St Gr S) (h3 : Anc ops k 3 ∨ Anc ops 3 n ∨ 3 = n ∨ k = 3 ∨ St (E3 B0 3) S) (h5 : Anc ops k 5 ∨ Anc ops 5 n ∨ 5 = n ∨ k = 5 ∨ St (E3 B0 5) S) (h12 : Anc ops k 12 ∨ Anc ops 12 n ∨ 12 = n ∨ k = 12 ∨ St (E3 B0 12) S) :
    ∀ m, m ≠ k → m ≠ n → Anc ops k m ∨ Anc ops m n ∨ St (E3 B0 m) S := by
  intro m hm hn
  by_cases e3 : m = 3
  · subst e3
    rcases h3 with h | h | h | h | h
    · exact .inl h
    · exact .inr (.inl h)
    · exact absurd h hn
    · exact absurd h.symm hm
    · exact .inr (.inr h)
  · by_cases e5 : m = 5
    · subst e5
      rcases h5 with h | h | h | h | h
      · exact .inl h
      · exact .inr (.inl h)
      · exact absurd h hn
      · exact absurd h.symm hm
      · exact .inr (.inr h)
    · by_cases e12 : m = 12
      · subst e12
        rcases h12 with h | h | h | h | h
        · exact .inl h
        · exact .inr (.inl h)
        · exact absurd h hn
        · exact absurd h.symm hm
        · exact .inr (.inr h)
      · exact .inr (.inr fun u w w' h1 h2 => hS u w w' h1 (h2.to_gr e3 e5 e12))

/-- An empty row that was just made. -/
def Er (B0 : Nat) (v : Value) (w : World) : Prop := ∃ g, v = .slice (some ⟨g, 0, none⟩) 0 0 ∧ B0 ≤ g ∧ w.heap[g]? = some (.cells #[] 5)
/-- A row of one byte that was just made. -/
def Or1 (B0 : Nat) (b : UInt8) (v : Value) (w : World) : Prop := ∃ g, v = .slice (some ⟨g, 0, none⟩) 1 1 ∧ B0 ≤ g ∧ w.heap[g]? = some (.cells #[bv b] 5)
/-- A box of one's own. -/
def Pb (B0 : Nat) (c : Clk) (v : Value) (w : World) : Prop := ∃ g, v = .pointer (some ⟨g, 0, none⟩) ∧ B0 ≤ g ∧ Bx w g c
theorem heap_keep {w w' : World} {g : Nat} {o : Obj} (h : w.heap[g]? = some o) (hb : Gr w w') : w'.heap[g]? = some o := by
  have hlt : g < w.heap.size := by
    rcases Nat.lt_or_ge g w.heap.size with h0 | h0
    · exact h0
    · rw [Array.getElem?_eq_none h0] at h; cases h
  exact (hb.block g hlt).trans h
theorem Er.st (B0 : Nat) : St Gr (Er B0) := fun u w w' ⟨g, h1, h2, h3⟩ hb => ⟨g, h1, h2, heap_keep h3 hb⟩
theorem Or1.st (B0 : Nat) (b : UInt8) : St Gr (Or1 B0 b) := fun u w w' ⟨g, h1, h2, h3⟩ hb => ⟨g, h1, h2, heap_keep h3 hb⟩
theorem Pb.st (B0 : Nat) (c : Clk) : St Gr (Pb B0 c) := fun u w w' ⟨g, h1, h2, h3⟩ hb => ⟨g, h1, h2, heap_keep h3 hb⟩
theorem Or1.st3 (B0 : Nat) (b : UInt8) : St (E3 B0 3) (Or1 B0 b) := fun u w w' ⟨g, h1, h2, h3⟩ hb => ⟨g, h1, h2, Ea.block hb h3 (fun cs fr e hp => by cases e; cases hp)⟩
theorem Pb.st3 (B0 : Nat) (c : Clk) : St (E3 B0 3) (Pb B0 c) := fun u w w' ⟨g, h1, h2, h3⟩ hb => ⟨g, h1, h2, Ea.block hb h3 (fun cs fr e hp => by cases e)⟩
theorem Pb.st5 (B0 : Nat) (c : Clk) : St (E3 B0 5) (Pb B0 c) := fun u w w' ⟨g, h1, h2, h3⟩ hb => ⟨g, h1, h2, Ea.block hb h3 (fun cs fr e hp => by cases e)⟩
theorem Or1.sb {B0 : Nat} {b : UInt8} {v : Value} {w : World} (h : Or1 B0 b v w) : Sb w v [b] := by
  obtain ⟨g, rfl, h2, h3⟩ := h
  refine ⟨_, _, rfl, Nat.le_refl _, by decide, rfl, fun _ => ⟨_, rfl, ?_, fun j u hu => ?_⟩⟩
  · rcases Nat.lt_or_ge g w.heap.size with h0 | h0
    · exact h0
    · rw [Array.getElem?_eq_none h0] at h3; cases h3
  · rw [add_zero_row, cell_of_row _ _ _ _ _ _ h3]
    simpa using hu

set_option maxRecDepth 100000 in
set_option maxHeartbeats 2000000 in
theorem awake04_c (w : World) : Calls Try.prog 29 #[] w (RetV w (.bool true)) := by
  have ha := Bx.new w ⟨4, 0, 9⟩
  have hA := Lib.hid (Bx.alloc ha (.cells #[.int .i64 5, .int .i64 0, .int .i64 7] 54))
  have hB := Lib.hid (Bx.new (w.alloc (.cells #[.int .i64 4, .int .i64 0, .int .i64 9] 54)) ⟨5, 0, 7⟩)
  clear ha
  go_enter Try.func29, Try.ntmps29
  go_wp2_with fail
  refine (j1 _).mono ?_
  rintro e w1 ⟨u1, rfl, ho1, hb1⟩
  have A1 := Lib.hid (hA.out.below hb1)
  have b1 := hB.out.below hb1
  simp only [World.size_alloc] at b1
  have B1 := Lib.hid b1
  have C1 := Lib.hid (gthen (gthen (galloc _ _) (galloc _ _)) hb1)
  have S1 := Lib.hid ho1.sb
  obtain ⟨A, c, rfl, g1, g2⟩ := ho1.sb.form
  clear hb1 hA hB b1 ho1
  go_wp2_with fail
  refine wp_region_own (by kernel_rfl) (by kernel_rfl) (E3 w1.heap.size) (E3.refl _) (fun _ _ _ h1 h2 => h2.below h1) ?_
  intro ops hop
  have an123 : Anc ops 12 3 := anc_of 3 12 3 (by rw [hop.out]; rfl)
  have an125 : Anc ops 12 5 := anc_of 3 12 5 (by rw [hop.out]; rfl)
  have an126 : Anc ops 12 6 := anc_of 3 12 6 (by rw [hop.out]; rfl)
  have an53 : Anc ops 5 3 := anc_of 3 5 3 (by rw [hop.out]; rfl)
  have an65 : Anc ops 6 5 := anc_of 3 6 5 (by rw [hop.out]; rfl)
  apply wpG_det (v := cv ⟨4, 0, 9⟩)
  exact fun _ => by rw [hop.out]; rfl
  · intro us w' hE hH
    have q0 := (A1.out.below (hE.2.mono (Nat.le_refl _))).c0
    have q1 := (A1.out.below (hE.2.mono (Nat.le_refl _))).c1
    have q2 := (A1.out.below (hE.2.mono (Nat.le_refl _))).c2
    go_simp
    exact ⟨E3.refl _ _ _, rfl⟩
  intro us
  go_simp
  exact rfl
  apply wpG_lin (Er w1.heap.size) 3 (by rw [hop.out]; rfl) (lin_E3 (Er.st _) (.inr (.inr (.inl rfl))) (.inr (.inl an53)) (.inr (.inl an123)))
  exact fun _ => by rw [hop.out]; rfl
  · intro us w' hE hH
    go_simp
    exact ⟨E3.gr (galloc _ _) (by decide) (by decide) (by decide), _, rfl, hE.1, heap_alloc_new _ _⟩
  intro us
  go_simp
  exact rfl
  repeat
    apply wpG_det
    exact fun _ => by rw [hop.out]; rfl
    intro us w' hE hH
    go_simp
    exact ⟨E3.refl _ _ _, rfl⟩
    intro us
    go_simp
    exact rfl
  apply wpG_lin (fun v w => Ob w w1.heap.size v [2, 0, 3]) 5 (by rw [hop.out]; rfl) (lin_E3 (fun _ _ _ h hb => h.below hb) (.inr (.inr (.inr (.inl rfl)))) (.inr (.inr (.inl rfl))) (.inr (.inl an125)))
  exact fun _ => by rw [hop.out]; rfl
  · intro us w' hE hH
    obtain ⟨g, e1, e2, e3⟩ := hH.1 rfl
    refine gv_app rfl ((show _ = us (0 + 1) from rfl).trans e1) rfl ?_
    obtain ⟨v', w'', r1, r2, r3⟩ := gapp0 w' 33 w1.heap.size g e2 hE.1 e3 _ [2, 0, 3] (S1.out.below hE.2) (by decide)
    exact ⟨v', w'', r1, by unfold E3; rw [if_pos rfl]; exact r2, r3⟩
  intro us
  go_simp
  exact rfl
  apply wpG_lin (Or1 w1.heap.size 9) 5 (by rw [hop.out]; rfl) (lin_E3 (Or1.st _ _) (.inr (.inr (.inr (.inr (Or1.st3 _ _))))) (.inr (.inr (.inl rfl))) (.inr (.inl an125)))
  exact fun _ => by rw [hop.out]; rfl
  · intro us w' hE hH
    go_simp
    exact ⟨E3.gr (galloc _ _) (by decide) (by decide) (by decide), _, rfl, hE.1, heap_alloc_new _ _⟩
  intro us
  go_simp
  exact rfl
  apply wpG_lin (fun v w => Sb w v [2, 0, 3, 9]) 6 (by rw [hop.out]; rfl) (lin_E3 (fun _ _ _ h hb => h.below hb) (.inl an53) (.inr (.inr (.inr (.inl rfl)))) (.inr (.inl an126)))
  exact fun _ => by rw [hop.out]; rfl
  · intro us w' hE hH
    refine gv_app rfl rfl rfl ?_
    obtain ⟨v', w'', r1, r2, r3⟩ := gapp w' 33 w1.heap.size hE.1 _ [2, 0, 3] (hH.2.1 rfl) _ [9] (hH.1 rfl).sb (by decide)
    exact ⟨v', w'', r1, by unfold E3; rw [if_neg (by decide), if_pos rfl]; exact r2, r3.sb⟩
  intro us
  go_simp
  exact rfl
  apply wpG_det (v := .tuple #[cv ⟨5, 0, 7⟩, .int .i64 3, .int .i64 0])
  exact fun _ => by rw [hop.out]; rfl
  · intro us w' hE hH
    go_simp
    refine (j2 _ w' (hH.1 rfl)).mono ?_
    rintro e w'' ⟨rfl, hb⟩
    exact ⟨_, rfl, E3.gr hb (by decide) (by decide) (by decide), rfl⟩
  intro us
  go_simp
  exact rfl
  repeat
    apply wpG_det
    exact fun _ => by rw [hop.out]; rfl
    intro us w' hE hH
    go_simp
    exact ⟨E3.refl _ _ _, rfl⟩
    intro us
    go_simp
    exact rfl
  apply wpG_lin (Pb w1.heap.size ⟨0, 0, 0⟩) 12 (by rw [hop.out]; rfl) (lin_E3 (Pb.st _ _) (.inr (.inr (.inr (.inr (Pb.st3 _ _))))) (.inr (.inr (.inr (.inr (Pb.st5 _ _))))) (.inr (.inr (.inl rfl))))
  exact fun _ => by rw [hop.out]; rfl
  · intro us w' hE hH
    go_simp
    exact ⟨E3.gr (galloc _ _) (by decide) (by decide) (by decide), _, rfl, hE.1, heap_alloc_new _ _⟩
  intro us
  go_simp
  exact rfl
  apply wpG_two 11 (fun u0 _ w => Pb w1.heap.size ⟨5, 0, 7⟩ u0 w) rfl (by
    intro m hm
    by_cases e3 : m = 3
    · subst e3; exact .inl an123
    · by_cases e5 : m = 5
      · subst e5; exact .inl an125
      · exact .inr fun u0 u w w' h1 h2 => Pb.st _ _ u0 w w' h1 (h2.to_gr e3 e5 hm))
  exact fun _ => by rw [hop.out]; rfl
  · intro us w' hE hH
    obtain ⟨g, e1, e2, e3⟩ := hH.1 rfl
    obtain ⟨y0, f0, y1, f1, y2, f2, s3⟩ := e3.sto 5 0 7
    dsimp only at y0 y1 y2
    have S3 := Lib.hid s3
    have E2 := Lib.hid e2
    clear s3 e2 e3
    unfold cv
    go_simp
    exact ⟨by unfold E3; rw [if_neg (by decide), if_neg (by decide), if_pos rfl]; exact fun _ => below_sto (Below.refl _ _) E2.out _ _ _, g, rfl, E2.out, S3.out⟩
  intro us
  go_simp
  exact rfl
  repeat
    apply wpG_det
    exact fun _ => by rw [hop.out]; rfl
    intro us w' hE hH
    go_simp
    exact ⟨E3.refl _ _ _, rfl⟩
    intro us
    go_simp
    exact rfl
  intro us w' hE hF
  clear hop
  --BEHIND
  obtain ⟨g, e1, e2, e3⟩ := hF.1 rfl
  dsimp only
  rw [e1]
  have KA := Lib.hid (A1.out.below (hE.2.mono (Nat.le_refl _)))
  have KB := Lib.hid (B1.out.below (hE.2.mono (Nat.le_refl _)))
  have KD := Lib.hid e3
  have KS := Lib.hid (S1.out.below hE.2)
  have KC := Lib.hid (gthen C1.out hE.2)
  clear e1 e2 e3 hE hF A1 B1 S1 C1
  have fKA0 := KA.out.c0
  have fKA1 := KA.out.c1
  have fKA2 := KA.out.c2
  go_wp2_with fail
  clear fKA0 fKA1 fKA2
  refine (j3 _ _ (Sb.new w' _ _ _ rfl (by decide) 3 rfl)).mono ?_
  rintro e w3 ⟨rfl, hb3⟩
  have bq := gthen (galloc _ _) hb3
  replace KA := Lib.hid (KA.out.below bq)
  replace KB := Lib.hid (KB.out.below bq)
  replace KD := Lib.hid (KD.out.below bq)
  replace KS := Lib.hid (KS.out.below bq)
  replace KC := Lib.hid (gthen KC.out bq)
  clear bq hb3
  have rw4 := Sb.new (w3.alloc (.cells #[.int .i64 0, .int .i64 0, .int .i64 0] 54)) 5 [2] #[.int .u8 2] rfl (by decide) 1 rfl
  simp only [World.size_alloc] at rw4
  have RW4 := Lib.hid rw4
  clear rw4
  have fKA0 := (KA.out.alloc (.cells #[.int .i64 0, .int .i64 0, .int .i64 0] 54)).c0
  have fKA1 := (KA.out.alloc (.cells #[.int .i64 0, .int .i64 0, .int .i64 0] 54)).c1
  have fKA2 := (KA.out.alloc (.cells #[.int .i64 0, .int .i64 0, .int .i64 0] 54)).c2
  go_wp2_with fail
  clear fKA0 fKA1 fKA2
  refine (j4 _ _ RW4.out).mono ?_
  rintro e w4 ⟨rfl, hb4⟩
  have bq := gthen (galloc _ _) (gthen (galloc _ _) hb4)
  replace KA := Lib.hid (KA.out.below bq)
  replace KB := Lib.hid (KB.out.below bq)
  replace KD := Lib.hid (KD.out.below bq)
  replace KS := Lib.hid (KS.out.below bq)
  replace KC := Lib.hid (gthen KC.out bq)
  clear bq hb4
  have fKB0 := (KB.out.alloc (.cells #[.int .i64 0, .int .i64 0, .int .i64 0] 54)).c0
  have fKB1 := (KB.out.alloc (.cells #[.int .i64 0, .int .i64 0, .int .i64 0] 54)).c1
  have fKB2 := (KB.out.alloc (.cells #[.int .i64 0, .int .i64 0, .int .i64 0] 54)).c2
  go_wp2_with fail
  clear fKB0 fKB1 fKB2
  refine (j5 _).mono ?_
  rintro e w5 ⟨u5, rfl, ho5, hb5⟩
  clear ho5
  have bq := gthen (galloc _ _) hb5
  replace KA := Lib.hid (KA.out.below bq)
  replace KB := Lib.hid (KB.out.below bq)
  replace KD := Lib.hid (KD.out.below bq)
  replace KS := Lib.hid (KS.out.below bq)
  replace KC := Lib.hid (gthen KC.out bq)
  clear bq hb5
  have fKB0 := KB.out.c0
  have fKB1 := KB.out.c1
  have fKB2 := KB.out.c2
  go_wp2_with fail
  clear fKB0 fKB1 fKB2
  refine (j6 _).mono ?_
  rintro e w6 ⟨rfl, hb6⟩
  have bq := hb6
  replace KA := Lib.hid (KA.out.below bq)
  replace KB := Lib.hid (KB.out.below bq)
  replace KD := Lib.hid (KD.out.below bq)
  replace KS := Lib.hid (KS.out.below bq)
  replace KC := Lib.hid (gthen KC.out bq)
  clear bq hb6
  have KT0 := Lib.hid (Bx.new w6 ⟨5, 1, 7⟩)
  obtain ⟨gt, hgt⟩ : ∃ gt, w6.heap.size = gt := ⟨_, rfl⟩
  have fKB0 := (KB.out.alloc (.cells #[.int .i64 5, .int .i64 1, .int .i64 7] 54)).c0
  have fKB1 := (KB.out.alloc (.cells #[.int .i64 5, .int .i64 1, .int .i64 7] 54)).c1
  have fKB2 := (KB.out.alloc (.cells #[.int .i64 5, .int .i64 1, .int .i64 7] 54)).c2
  go_wp2_with fail
  clear fKB0 fKB1 fKB2
  refine (j7 _).mono ?_
  rintro e w7 ⟨rfl, hb7⟩
  have KT := Lib.hid (KT0.out.below hb7)
  clear KT0
  rw [hgt] at KT
  try rw [hgt]
  clear hgt
  have bq := gthen (galloc _ _) hb7
  replace KA := Lib.hid (KA.out.below bq)
  replace KB := Lib.hid (KB.out.below bq)
  replace KD := Lib.hid (KD.out.below bq)
  replace KS := Lib.hid (KS.out.below bq)
  replace KC := Lib.hid (gthen KC.out bq)
  clear bq hb7
  go_wp2_with fail
  refine (j8 _).mono ?_
  rintro e w8 ⟨rfl, hb8⟩
  have bq := gthen (galloc _ _) hb8
  replace KA := Lib.hid (KA.out.below bq)
  replace KB := Lib.hid (KB.out.below bq)
  replace KD := Lib.hid (KD.out.below bq)
  replace KS := Lib.hid (KS.out.below bq)
  replace KT := Lib.hid (KT.out.below bq)
  replace KC := Lib.hid (gthen KC.out bq)
  clear bq hb8
  go_wp2_with fail
  have bq := galloc w8 (.cells #[.int .i64 0, .int .i64 0, .int .i64 0] 54)
  replace KA := Lib.hid (KA.out.below bq)
  replace KB := Lib.hid (KB.out.below bq)
  replace KD := Lib.hid (KD.out.below bq)
  replace KS := Lib.hid (KS.out.below bq)
  replace KT := Lib.hid (KT.out.below bq)
  replace KC := Lib.hid (gthen KC.out bq)
  clear bq
  generalize w8.alloc (.cells #[.int .i64 0, .int .i64 0, .int .i64 0] 54) = w9 at *
  refine wp_region_gr' (by kernel_rfl) (by kernel_rfl) ?_
  intro ops hop
  repeat
    apply wpG_det
    exact fun _ => by rw [hop.out]; rfl
    intro us w' hE hH
    go_simp
    exact ⟨Gr.refl _, rfl⟩
    intro us
    go_simp
    exact rfl
  apply wpG_sat (fun u w => Sb w u [2, 0, 3]) (fun _ _ _ h hb => h.below hb)
  exact fun _ => by rw [hop.out]; rfl
  · intro us w' hE hH
    go_simp
    exact ⟨galloc _ _, Sb.new w' _ _ _ rfl (by decide) 3 rfl⟩
  intro us
  go_simp
  exact rfl
  apply wpG_det (v := Value.bool true)
  exact fun _ => by rw [hop.out]; rfl
  · intro us w' hE hH
    go_simp
    refine (same_c _ _ [2, 0, 3] [2, 0, 3] w' (KS.out.below hE) (hH.1 rfl)).mono ?_
    rw [decide_eq_true rfl]
    rintro e w'' ⟨rfl, hb⟩
    exact ⟨_, rfl, hb, rfl⟩
  intro us
  go_simp
  exact rfl
  repeat
    apply wpG_det
    exact fun _ => by rw [hop.out]; rfl
    intro us w' hE hH
    go_simp
    exact ⟨Gr.refl _, rfl⟩
    intro us
    go_simp
    exact rfl
  apply wpG_det (v := .agg #[.int .i64 5, .int .i64 0, .int .i64 7])
  exact fun _ => by rw [hop.out]; rfl
  · intro us w' hE hH
    have q0 := (KD.out.below hE).c0
    have q1 := (KD.out.below hE).c1
    have q2 := (KD.out.below hE).c2
    go_simp
    exact ⟨Gr.refl _, rfl⟩
  intro us
  go_simp
  exact rfl
  apply wpG_det (v := .agg #[.int .i64 5, .int .i64 0, .int .i64 7])
  exact fun _ => by rw [hop.out]; rfl
  · intro us w' hE hH
    have q0 := (KB.out.below hE).c0
    have q1 := (KB.out.below hE).c1
    have q2 := (KB.out.below hE).c2
    go_simp
    exact ⟨Gr.refl _, rfl⟩
  intro us
  go_simp
  exact rfl
  apply wpG_det (v := Value.bool true)
  exact fun _ => by rw [hop.out]; rfl
  · intro us w' hE hH
    have q : ∀ W, (Op.equalIn 10000 54 (.agg #[.int .i64 5, .int .i64 0, .int .i64 7]) (.agg #[.int .i64 5, .int .i64 0, .int .i64 7])).run Try.prog W = .ok true W := fun W => (eq_clk ⟨5, 0, 7⟩ ⟨5, 0, 7⟩ W).trans (by simp)
    go_simp
    exact ⟨Gr.refl _, rfl⟩
  intro us
  go_simp
  exact rfl
  repeat
    apply wpG_det
    exact fun _ => by rw [hop.out]; rfl
    intro us w' hE hH
    go_simp
    exact ⟨Gr.refl _, rfl⟩
    intro us
    go_simp
    exact rfl
  apply wpG_det (v := .agg #[.int .i64 5, .int .i64 1, .int .i64 7])
  exact fun _ => by rw [hop.out]; rfl
  · intro us w' hE hH
    have q0 := (KT.out.below hE).c0
    have q1 := (KT.out.below hE).c1
    have q2 := (KT.out.below hE).c2
    go_simp
    exact ⟨Gr.refl _, rfl⟩
  intro us
  go_simp
  exact rfl
  apply wpG_det
  exact fun _ => by rw [hop.out]; rfl
  intro us w' hE hH
  go_simp
  exact ⟨Gr.refl _, rfl⟩
  intro us
  go_simp
  exact rfl
  apply wpG_det (v := Value.bool true)
  exact fun _ => by rw [hop.out]; rfl
  · intro us w' hE hH
    have q : ∀ W, (Op.equalIn 10000 54 (.agg #[.int .i64 5, .int .i64 1, .int .i64 7]) (.agg #[.int .i64 5, .int .i64 1, .int .i64 7])).run Try.prog W = .ok true W := fun W => (eq_clk ⟨5, 1, 7⟩ ⟨5, 1, 7⟩ W).trans (by simp)
    go_simp
    exact ⟨Gr.refl _, rfl⟩
  intro us
  go_simp
  exact rfl
  repeat
    apply wpG_det
    exact fun _ => by rw [hop.out]; rfl
    intro us w' hE hH
    go_simp
    exact ⟨Gr.refl _, rfl⟩
    intro us
    go_simp
    exact rfl
  apply wpG_det (v := .agg #[.int .i64 4, .int .i64 0, .int .i64 9])
  exact fun _ => by rw [hop.out]; rfl
  · intro us w' hE hH
    have q0 := (KA.out.below hE).c0
    have q1 := (KA.out.below hE).c1
    have q2 := (KA.out.below hE).c2
    go_simp
    exact ⟨Gr.refl _, rfl⟩
  intro us
  go_simp
  exact rfl
  apply wpG_det (v := .agg #[.int .i64 5, .int .i64 0, .int .i64 7])
  exact fun _ => by rw [hop.out]; rfl
  · intro us w' hE hH
    have q0 := (KB.out.below hE).c0
    have q1 := (KB.out.below hE).c1
    have q2 := (KB.out.below hE).c2
    go_simp
    exact ⟨Gr.refl _, rfl⟩
  intro us
  go_simp
  exact rfl
  apply wpG_det (v := Value.bool true)
  exact fun _ => by rw [hop.out]; rfl
  · intro us w' hE hH
    go_simp
    refine (beside_c ⟨4, 0, 9⟩ ⟨5, 0, 7⟩ w').mono ?_
    rw [show (!covF ⟨4, 0, 9⟩ ⟨5, 0, 7⟩ && !covF ⟨5, 0, 7⟩ ⟨4, 0, 9⟩) = true from by decide]
    rintro e w'' ⟨rfl, hb⟩
    exact ⟨_, rfl, hb, rfl⟩
  intro us
  go_simp
  exact rfl
  repeat
    apply wpG_det
    exact fun _ => by rw [hop.out]; rfl
    intro us w' hE hH
    go_simp
    exact ⟨Gr.refl _, rfl⟩
    intro us
    go_simp
    exact rfl
  apply wpG_det (v := .agg #[.int .i64 4, .int .i64 0, .int .i64 9])
  exact fun _ => by rw [hop.out]; rfl
  · intro us w' hE hH
    have q0 := (KA.out.below hE).c0
    have q1 := (KA.out.below hE).c1
    have q2 := (KA.out.below hE).c2
    go_simp
    exact ⟨Gr.refl _, rfl⟩
  intro us
  go_simp
  exact rfl
  apply wpG_det (v := .agg #[.int .i64 5, .int .i64 0, .int .i64 7])
  exact fun _ => by rw [hop.out]; rfl
  · intro us w' hE hH
    have q0 := (KB.out.below hE).c0
    have q1 := (KB.out.below hE).c1
    have q2 := (KB.out.below hE).c2
    go_simp
    exact ⟨Gr.refl _, rfl⟩
  intro us
  go_simp
  exact rfl
  apply wpG_sat (fun u w => Sc w u [⟨4, 0, 9⟩, ⟨5, 0, 7⟩]) (fun _ _ _ h hb => h.below hb)
  exact fun _ => by rw [hop.out]; rfl
  · intro us w' hE hH
    go_simp
    exact ⟨galloc _ _, Sc.new w' _ [⟨4, 0, 9⟩, ⟨5, 0, 7⟩] _ rfl (by simp) 2 rfl⟩
  intro us
  go_simp
  exact rfl
  apply wpG_det (v := .agg #[.int .i64 5, .int .i64 0, .int .i64 9])
  exact fun _ => by rw [hop.out]; rfl
  · intro us w' hE hH
    go_simp
    refine (merge_c _ [⟨4, 0, 9⟩, ⟨5, 0, 7⟩] w' (hH.1 rfl)).mono ?_
    rw [show mergeF [⟨4, 0, 9⟩, ⟨5, 0, 7⟩] = ⟨5, 0, 9⟩ from by decide]
    rintro e w'' ⟨rfl, hb⟩
    exact ⟨_, rfl, hb, rfl⟩
  intro us
  go_simp
  exact rfl
  apply wpG_det
  exact fun _ => by rw [hop.out]; rfl
  intro us w' hE hH
  go_simp
  exact ⟨Gr.refl _, rfl⟩
  intro us
  go_simp
  exact rfl
  apply wpG_det (v := Value.bool true)
  exact fun _ => by rw [hop.out]; rfl
  · intro us w' hE hH
    have q : ∀ W, (Op.equalIn 10000 54 (.agg #[.int .i64 5, .int .i64 0, .int .i64 9]) (.agg #[.int .i64 5, .int .i64 0, .int .i64 9])).run Try.prog W = .ok true W := fun W => (eq_clk ⟨5, 0, 9⟩ ⟨5, 0, 9⟩ W).trans (by simp)
    go_simp
    exact ⟨Gr.refl _, rfl⟩
  intro us
  go_simp
  exact rfl
  repeat
    apply wpG_det
    exact fun _ => by rw [hop.out]; rfl
    intro us w' hE hH
    go_simp
    exact ⟨Gr.refl _, rfl⟩
    intro us
    go_simp
    exact rfl
  apply wpG_det (v := .agg #[.int .i64 4, .int .i64 0, .int .i64 9])
  exact fun _ => by rw [hop.out]; rfl
  · intro us w' hE hH
    have q0 := (KA.out.below hE).c0
    have q1 := (KA.out.below hE).c1
    have q2 := (KA.out.below hE).c2
    go_simp
    exact ⟨Gr.refl _, rfl⟩
  intro us
  go_simp
  exact rfl
  apply wpG_det (v := .agg #[.int .i64 5, .int .i64 0, .int .i64 7])
  exact fun _ => by rw [hop.out]; rfl
  · intro us w' hE hH
    have q0 := (KB.out.below hE).c0
    have q1 := (KB.out.below hE).c1
    have q2 := (KB.out.below hE).c2
    go_simp
    exact ⟨Gr.refl _, rfl⟩
  intro us
  go_simp
  exact rfl
  apply wpG_sat (fun u w => Sc w u [⟨4, 0, 9⟩, ⟨5, 0, 7⟩]) (fun _ _ _ h hb => h.below hb)
  exact fun _ => by rw [hop.out]; rfl
  · intro us w' hE hH
    go_simp
    exact ⟨galloc _ _, Sc.new w' _ [⟨4, 0, 9⟩, ⟨5, 0, 7⟩] _ rfl (by simp) 2 rfl⟩
  intro us
  go_simp
  exact rfl
  apply wpG_det (v := .agg #[.int .i64 5, .int .i64 0, .int .i64 9])
  exact fun _ => by rw [hop.out]; rfl
  · intro us w' hE hH
    go_simp
    refine (merge_c _ [⟨4, 0, 9⟩, ⟨5, 0, 7⟩] w' (hH.1 rfl)).mono ?_
    rw [show mergeF [⟨4, 0, 9⟩, ⟨5, 0, 7⟩] = ⟨5, 0, 9⟩ from by decide]
    rintro e w'' ⟨rfl, hb⟩
    exact ⟨_, rfl, hb, rfl⟩
  intro us
  go_simp
  exact rfl
  apply wpG_det (v := .agg #[.int .i64 4, .int .i64 0, .int .i64 9])
  exact fun _ => by rw [hop.out]; rfl
  · intro us w' hE hH
    have q0 := (KA.out.below hE).c0
    have q1 := (KA.out.below hE).c1
    have q2 := (KA.out.below hE).c2
    go_simp
    exact ⟨Gr.refl _, rfl⟩
  intro us
  go_simp
  exact rfl
  apply wpG_det (v := Value.bool true)
  exact fun _ => by rw [hop.out]; rfl
  · intro us w' hE hH
    go_simp
    refine (covers_c ⟨5, 0, 9⟩ ⟨4, 0, 9⟩ w').mono ?_
    rw [show covF ⟨5, 0, 9⟩ ⟨4, 0, 9⟩ = true from by decide]
    rintro e w'' ⟨rfl, hb⟩
    exact ⟨_, rfl, hb, rfl⟩
  intro us
  go_simp
  exact rfl
  repeat
    apply wpG_det
    exact fun _ => by rw [hop.out]; rfl
    intro us w' hE hH
    go_simp
    exact ⟨Gr.refl _, rfl⟩
    intro us
    go_simp
    exact rfl
  apply wpG_det (v := .agg #[.int .i64 4, .int .i64 0, .int .i64 9])
  exact fun _ => by rw [hop.out]; rfl
  · intro us w' hE hH
    have q0 := (KA.out.below hE).c0
    have q1 := (KA.out.below hE).c1
    have q2 := (KA.out.below hE).c2
    go_simp
    exact ⟨Gr.refl _, rfl⟩
  intro us
  go_simp
  exact rfl
  apply wpG_det (v := .agg #[.int .i64 5, .int .i64 0, .int .i64 7])
  exact fun _ => by rw [hop.out]; rfl
  · intro us w' hE hH
    have q0 := (KB.out.below hE).c0
    have q1 := (KB.out.below hE).c1
    have q2 := (KB.out.below hE).c2
    go_simp
    exact ⟨Gr.refl _, rfl⟩
  intro us
  go_simp
  exact rfl
  apply wpG_det (v := Value.bool false)
  exact fun _ => by rw [hop.out]; rfl
  · intro us w' hE hH
    go_simp
    refine (covers_c ⟨4, 0, 9⟩ ⟨5, 0, 7⟩ w').mono ?_
    rw [show covF ⟨4, 0, 9⟩ ⟨5, 0, 7⟩ = false from by decide]
    rintro e w'' ⟨rfl, hb⟩
    exact ⟨_, rfl, hb, rfl⟩
  intro us
  go_simp
  exact rfl
  repeat
    apply wpG_det
    exact fun _ => by rw [hop.out]; rfl
    intro us w' hE hH
    go_simp
    exact ⟨Gr.refl _, rfl⟩
    intro us
    go_simp
    exact rfl
  apply wpG_det (v := .agg #[.int .i64 5, .int .i64 0, .int .i64 7])
  exact fun _ => by rw [hop.out]; rfl
  · intro us w' hE hH
    have q0 := (KB.out.below hE).c0
    have q1 := (KB.out.below hE).c1
    have q2 := (KB.out.below hE).c2
    go_simp
    exact ⟨Gr.refl _, rfl⟩
  intro us
  go_simp
  exact rfl
  apply wpG_det (v := Value.bool true)
  exact fun _ => by rw [hop.out]; rfl
  · intro us w' hE hH
    go_simp
    refine (right_c ⟨5, 0, 7⟩ w').mono ?_
    rw [show rightF ⟨5, 0, 7⟩ = true from by decide]
    rintro e w'' ⟨rfl, hb⟩
    exact ⟨_, rfl, hb, rfl⟩
  intro us
  go_simp
  exact rfl
  repeat
    apply wpG_det
    exact fun _ => by rw [hop.out]; rfl
    intro us w' hE hH
    go_simp
    exact ⟨Gr.refl _, rfl⟩
    intro us
    go_simp
    exact rfl
  apply wpG_det (v := Value.bool false)
  exact fun _ => by rw [hop.out]; rfl
  · intro us w' hE hH
    go_simp
    refine (right_c ⟨4611686018427387904, 0, 0⟩ w').mono ?_
    rw [show rightF ⟨4611686018427387904, 0, 0⟩ = false from by decide]
    rintro e w'' ⟨rfl, hb⟩
    exact ⟨_, rfl, hb, rfl⟩
  intro us
  go_simp
  exact rfl
  repeat
    apply wpG_det
    exact fun _ => by rw [hop.out]; rfl
    intro us w' hE hH
    go_simp
    exact ⟨Gr.refl _, rfl⟩
    intro us
    go_simp
    exact rfl
  intro us w' hE _
  clear hop
  go_wp2_with fail
  go_ret
  exact ⟨rfl, gthen KC.out hE⟩
end Go.Proofs.Ytfcbpdokilidgaa
