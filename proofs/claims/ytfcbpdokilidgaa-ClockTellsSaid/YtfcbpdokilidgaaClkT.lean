/- Walk through clock.Take (printed by gen_ctake.py). -/
import Derived.Test.YtfcbpdokilidgaaClkP
namespace Go.Proofs.Ytfcbpdokilidgaa
open Go.RowKit
set_option linter.unusedVariables false
set_option linter.unusedSimpArgs false

theorem tk_le (l : List UInt8) : (tk l).2.1 ≤ l.length := by
  cases hs : scan l with
  | none => rw [tk_none hs]; split <;> exact Nat.zero_le _
  | some s =>
    obtain ⟨h1, _⟩ := scan_some hs
    rw [tk_some hs]
    split
    · exact h1
    · exact Nat.zero_le _

def ct1 (q : Int) (l : List UInt8) : Int × Nat × Int :=
  if (tk l).2.2 ≠ 0 then (0, 0, (tk l).2.2) else if zagF (tk l).1 < -q ∨ 4611686018427387903 - q < zagF (tk l).1 then (0, 0, 3) else (q + zagF (tk l).1, (tk l).2.1, 0)
def ctakeF (p : Clk) (b : List UInt8) : Clk × Nat × Int :=
  if rightF p = false then (⟨0, 0, 0⟩, 0, 1) else
  let a := ct1 p.x b
  if a.2.2 ≠ 0 then (⟨0, 0, 0⟩, 0, a.2.2) else
  let d := ct1 p.y (b.drop a.2.1)
  if d.2.2 ≠ 0 then (⟨0, 0, 0⟩, 0, d.2.2) else
  let f := ct1 p.z (b.drop (a.2.1 + d.2.1))
  if f.2.2 ≠ 0 then (⟨0, 0, 0⟩, 0, f.2.2) else (⟨a.1, d.1, f.1⟩, a.2.1 + d.2.1 + f.2.1, 0)
def ctV (t : Clk × Nat × Int) : Value := .tuple #[cv t.1, .int .i64 (t.2.1 : Int), .int .i64 t.2.2]
/-- What one number's bytes tell, and what the walk needs of it. -/
theorem ct1_spec (q : Int) (l : List UInt8) : ∃ (n : Int) (sz : Nat) (er : Int), tkS (tk l) = .tuple #[.int .i64 n, .int .i64 (sz : Int), .int .i64 er] ∧ sz ≤ l.length ∧ -9223372036854775808 ≤ n ∧ n < 9223372036854775808 ∧
    (er ≠ 0 → ct1 q l = (0, 0, er)) ∧ (er = 0 → (n < -q ∨ 4611686018427387903 - q < n) → ct1 q l = (0, 0, 3)) ∧ (er = 0 → ¬ (n < -q ∨ 4611686018427387903 - q < n) → ct1 q l = (q + n, sz, 0)) :=
  ⟨_, _, _, rfl, tk_le l, zag_lo _, zag_hi _, fun h => if_pos h, fun h h' => by unfold ct1; rw [if_neg (by simpa using h), if_pos h'], fun h h' => by unfold ct1; rw [if_neg (by simpa using h), if_neg h']⟩

set_option maxRecDepth 100000 in
set_option maxHeartbeats 2000000 in
theorem ctake_c (p : Clk) (v : Value) (b : List UInt8) (w : World) (h : Sb w v b) (hl : b.length ≤ 1000000000) : Calls Try.prog 34 #[cv p, v] w (RetV w (ctV (ctakeF p b))) := by
  obtain ⟨A, c, rfl, g1, g2⟩ := h.form
  have H := Lib.hid h
  clear h
  have ha := Bx.new w p
  have hA := Lib.hid (Bx.alloc ha (.cells #[.int .i64 0, .int .i64 0, .int .i64 0] 54))
  have hZ := Lib.hid (Bx.new (w.alloc (.cells #[.int .i64 p.x, .int .i64 p.y, .int .i64 p.z] 54)) ⟨0, 0, 0⟩)
  clear ha
  cases hr : rightF p with
  | false =>
    have e : ctakeF p b = (⟨0, 0, 0⟩, 0, 1) := if_pos hr
    rw [e]
    have HR := Lib.hid hr
    clear e hr
    unfold ctV
    dsimp only
    go_enter Try.func34, Try.ntmps34
    unfold cv
    go_wp2_with fail
    refine (right_c p _).mono ?_
    rw [HR.out]
    rintro e w1 ⟨rfl, hb1⟩
    have z1 := hZ.out.below hb1
    simp only [World.size_alloc] at z1
    have C1 := Lib.hid (gthen (gthen (galloc _ _) (galloc _ _)) hb1)
    clear hb1
    obtain ⟨y0, f0, y1, f1, y2, f2, s3⟩ := z1.sto 0 0 0
    have S3 := Lib.hid s3
    clear s3 z1
    dsimp only at y0 y1 y2
    go_wp2_with fail
    refine bodyPost_ret (v := .tuple #[cv ⟨0, 0, 0⟩, _, _]) (res3 Try.results34 _ _ _ _ rfl S3.out) rfl ⟨rfl, below_sto C1.out (by omega) _ _ _⟩
  | true =>
    obtain ⟨⟨bx0, bx1⟩, ⟨by0, by1⟩, bz0, bz1⟩ := right_bounds hr
    obtain ⟨V, hV⟩ : ∃ V, ctakeF p b = V := ⟨_, rfl⟩
    obtain ⟨a, ha⟩ : ∃ a, ct1 p.x b = a := ⟨_, rfl⟩
    obtain ⟨d, hd⟩ : ∃ d, ct1 p.y (b.drop a.2.1) = d := ⟨_, rfl⟩
    obtain ⟨f, hf⟩ : ∃ f, ct1 p.z (b.drop (a.2.1 + d.2.1)) = f := ⟨_, rfl⟩
    have hva : a.2.2 ≠ 0 → V = (⟨0, 0, 0⟩, 0, a.2.2) := fun h => by
      rw [← hV]; unfold ctakeF; rw [if_neg (by rw [hr]; simp)]; dsimp only; rw [ha, if_pos h]
    have hvd : a.2.2 = 0 → d.2.2 ≠ 0 → V = (⟨0, 0, 0⟩, 0, d.2.2) := fun h h' => by
      rw [← hV]; unfold ctakeF; rw [if_neg (by rw [hr]; simp)]; dsimp only; rw [ha, if_neg (by simpa using h), hd, if_pos h']
    have hvf : a.2.2 = 0 ∧ d.2.2 = 0 → f.2.2 ≠ 0 → V = (⟨0, 0, 0⟩, 0, f.2.2) := fun h h' => by
      rw [← hV]; unfold ctakeF; rw [if_neg (by rw [hr]; simp)]; dsimp only; rw [ha, if_neg (by simpa using h.1), hd, if_neg (by simpa using h.2), hf, if_pos h']
    have hvo : a.2.2 = 0 ∧ d.2.2 = 0 ∧ f.2.2 = 0 → V = (⟨a.1, d.1, f.1⟩, a.2.1 + d.2.1 + f.2.1, 0) := fun h => by
      rw [← hV]; unfold ctakeF; rw [if_neg (by rw [hr]; simp)]; dsimp only; rw [ha, if_neg (by simpa using h.1), hd, if_neg (by simpa using h.2.1), hf, if_neg (by simpa using h.2.2)]
    have HVA := Lib.hid hva
    have HVD := Lib.hid hvd
    have HVF := Lib.hid hvf
    have HVO := Lib.hid hvo
    have HA := Lib.hid ha
    have HD := Lib.hid hd
    have HF := Lib.hid hf
    have HR := Lib.hid hr
    rw [hV]
    clear hV ha hd hf hva hvd hvf hvo hr
    go_enter Try.func34, Try.ntmps34
    unfold cv
    go_wp2_with fail
    refine (right_c p _).mono ?_
    rw [HR.out]
    rintro e w1 ⟨rfl, hb1⟩
    have z1 := hZ.out.below hb1
    have a1 := hA.out.below hb1
    have sz1 := hb1.size
    simp only [World.size_alloc] at z1 sz1
    have Z1 := Lib.hid z1
    have C1 := Lib.hid (gthen (gthen (galloc _ _) (galloc _ _)) hb1)
    have q0 := a1.c0
    have q1 := a1.c1
    have q2 := a1.c2
    have a2 := a1.alloc (.cells #[.int .i64 p.x, .int .i64 p.y, .int .i64 p.z] 54)
    have x0 := a2.c0
    have x1 := a2.c1
    have x2 := a2.c2
    clear hb1 z1 a1 a2 hA hZ
    have i0 : ∀ w, (Instr.index 54 (.agg #[.int .i64 p.x, .int .i64 p.y, .int .i64 p.z]) (.int .i64 0)).run Try.prog w = .ok (.int .i64 p.x) w := fun _ => by kernel_rfl
    have i1 : ∀ w, (Instr.index 54 (.agg #[.int .i64 p.x, .int .i64 p.y, .int .i64 p.z]) (.int .i64 1)).run Try.prog w = .ok (.int .i64 p.y) w := fun _ => by kernel_rfl
    have i2 : ∀ w, (Instr.index 54 (.agg #[.int .i64 p.x, .int .i64 p.y, .int .i64 p.z]) (.int .i64 2)).run Try.prog w = .ok (.int .i64 p.z) w := fun _ => by kernel_rfl
    go_wp2_with fail
    clear q0 q1 q2 x0 x1 x2
    obtain ⟨hc, hhc⟩ : ∃ hc, w1.heap.size = hc := ⟨_, rfl⟩
    have X7 : Bx (w1.alloc (.cells #[.int .i64 p.x, .int .i64 p.y, .int .i64 p.z] 54)) hc p := hhc ▸ Bx.new w1 p
    have XZ7 := Z1.out.alloc (.cells #[.int .i64 p.x, .int .i64 p.y, .int .i64 p.z] 54)
    have XC7 := gthen C1.out (galloc w1 (.cells #[.int .i64 p.x, .int .i64 p.y, .int .i64 p.z] 54))
    have hcb : w.heap.size + 2 ≤ hc := by omega
    rw [hhc]
    have HC7 := Lib.hid (And.intro X7 (And.intro XZ7 XC7))
    clear X7 XZ7 XC7 hhc sz1 Z1 C1
    generalize w1.alloc (.cells #[.int .i64 p.x, .int .i64 p.y, .int .i64 p.z] 54) = w7 at *
    go_loopg [8, 20] (3) (fun g u i wr => Hid (Below w.heap.size w wr) ∧ Hid (Bx wr (w.heap.size + 1) ⟨0, 0, 0⟩) ∧ ((g = 3 ∧ i = .int .i64 0 ∧ u = .int .i64 (((0 : Nat) : Nat) : Int) ∧ Hid (Bx wr hc p) ∧ (0 : Nat) ≤ b.length) ∨ (g = 2 ∧ i = .int .i64 1 ∧ u = .int .i64 ((a.2.1 : Nat) : Int) ∧ Hid (Bx wr hc ⟨a.1, p.y, p.z⟩) ∧ a.2.1 ≤ b.length ∧ Hid (a.2.2 = 0)) ∨ (g = 1 ∧ i = .int .i64 2 ∧ u = .int .i64 (((a.2.1 + d.2.1) : Nat) : Int) ∧ Hid (Bx wr hc ⟨a.1, d.1, p.z⟩) ∧ (a.2.1 + d.2.1) ≤ b.length ∧ Hid (a.2.2 = 0 ∧ d.2.2 = 0)) ∨ (g = 0 ∧ i = .int .i64 3 ∧ u = .int .i64 (((a.2.1 + d.2.1 + f.2.1) : Nat) : Int) ∧ Hid (Bx wr hc ⟨a.1, d.1, f.1⟩) ∧ (a.2.1 + d.2.1 + f.2.1) ≤ b.length ∧ Hid (a.2.2 = 0 ∧ d.2.2 = 0 ∧ f.2.2 = 0))))
    case atStart => exact ⟨HC7.out.2.2, HC7.out.2.1, .inl ⟨rfl, rfl, rfl, HC7.out.1, Nat.zero_le _⟩⟩
    case round =>
      obtain ⟨XB, XZ, hcase⟩ := hrel
      clear HC7
      rcases hcase with ⟨rfl, rfl, rfl, XC, hu⟩ | ⟨rfl, rfl, rfl, XC, hu, HK⟩ | ⟨rfl, rfl, rfl, XC, hu, HK⟩ | ⟨rfl, rfl, rfl, XC, hu, HK⟩
      · obtain ⟨n, sz, er, t1, t2, t3, t4, t5, t6, t7⟩ := ct1_spec p.x b
        rw [HA.out] at t5 t6 t7
        have T1 := Lib.hid t1
        have T5 := Lib.hid t5
        have T6 := Lib.hid t6
        have T7 := Lib.hid t7
        clear t1 t5 t6 t7
        have HS : Hid (Sb wr (.slice A b.length c) b) := Lib.hid (H.out.below XB.out)
        have HKK : Hid (0 = 0) := rfl
        go_wp2_with fail
        refine (takes_c _ _ _ HS.out (by omega)).mono ?_
        rw [T1.out]
        rintro e w9 ⟨rfl, hb9⟩
        by_cases her : er = 0
        · subst her
          by_cases hn1 : n < -p.x
          · have EV := Lib.hid (HVA.out (by rw [T6.out rfl (.inl hn1)]; decide))
            have T6x := Lib.hid (T6.out rfl (.inl hn1))
            clear T1 T5 T6 T7
            have zz0 := (XZ.out.below hb9).sto 0 0 0
            obtain ⟨y0, f0, y1, f1, y2, f2, s3⟩ := zz0
            have S3 := Lib.hid s3
            have B9 := Lib.hid (below_then XB.out XB.out.size hb9)
            clear s3 hb9
            dsimp only at y0 y1 y2
            go_wp2_with fail
            refine bodyPost_ret (v := .tuple #[cv ⟨0, 0, 0⟩, _, _]) (res3 Try.results34 _ _ _ _ rfl S3.out) rfl ⟨?_, below_sto B9.out (by omega) _ _ _⟩
            rw [EV.out, T6x.out]
            rfl
          · by_cases hn2 : 4611686018427387903 - p.x < n
            · have EV := Lib.hid (HVA.out (by rw [T6.out rfl (.inr hn2)]; decide))
              have T6x := Lib.hid (T6.out rfl (.inr hn2))
              clear T1 T5 T6 T7
              have zz0 := (XZ.out.below hb9).sto 0 0 0
              obtain ⟨y0, f0, y1, f1, y2, f2, s3⟩ := zz0
              have S3 := Lib.hid s3
              have B9 := Lib.hid (below_then XB.out XB.out.size hb9)
              clear s3 hb9
              dsimp only at y0 y1 y2
              go_wp2_with fail
              refine bodyPost_ret (v := .tuple #[cv ⟨0, 0, 0⟩, _, _]) (res3 Try.results34 _ _ _ _ rfl S3.out) rfl ⟨?_, below_sto B9.out (by omega) _ _ _⟩
              rw [EV.out, T6x.out]
              rfl
            · have EN := T7.out rfl (by omega)
              have hbx := (XC.out.below hb9)
              have q0 := hbx.c0
              have q1 := hbx.fr 0
              have HBX := Lib.hid (hbx.set0 (p.x + n))
              have B9 := Lib.hid (below_then XB.out XB.out.size hb9)
              have Z9 := Lib.hid (XZ.out.below hb9)
              have HEN := Lib.hid EN
              clear T1 T5 T6 T7 hbx hb9 EN
              go_wp2_with fail
              go_roundg 2
              case measure => omega
              case rel =>
                refine ⟨B9.out.setCell (show w.heap.size ≤ hc by omega) _, Z9.out.other (show w.heap.size + 1 ≠ hc by omega) _, .inr (.inl ⟨rfl, rfl, ?_, ?_, ?_, ?_⟩)⟩
                · have h0 := HKK.out
                  first
                    | (rw [HEN.out]; done)
                    | (rw [HEN.out]; dsimp only; rw [← h0]; go_num; done)
                · unfold Hid
                  rw [HEN.out]
                  exact HBX.out
                · have h0 := HKK.out
                  rw [HEN.out]
                  dsimp only
                  first | done | omega
                · exact Lib.hid (by rw [HEN.out])
        · have hvb : (er != 0) = true := by rw [bne_iff_ne]; exact her
          have EV := Lib.hid (HVA.out (by rw [T5.out her]; exact her))
          have T5x := Lib.hid (T5.out her)
          clear T1 T5 T6 T7 her
          have zz0 := (XZ.out.below hb9).sto 0 0 0
          obtain ⟨y0, f0, y1, f1, y2, f2, s3⟩ := zz0
          have S3 := Lib.hid s3
          have B9 := Lib.hid (below_then XB.out XB.out.size hb9)
          clear s3 hb9
          dsimp only at y0 y1 y2
          go_wp2_with fail
          refine bodyPost_ret (v := .tuple #[cv ⟨0, 0, 0⟩, _, _]) (res3 Try.results34 _ _ _ _ rfl S3.out) rfl ⟨?_, below_sto B9.out (by omega) _ _ _⟩
          rw [EV.out, T5x.out]
          rfl
      · obtain ⟨n, sz, er, t1, t2, t3, t4, t5, t6, t7⟩ := ct1_spec p.y (b.drop a.2.1)
        rw [HD.out] at t5 t6 t7
        have T1 := Lib.hid t1
        have T5 := Lib.hid t5
        have T6 := Lib.hid t6
        have T7 := Lib.hid t7
        clear t1 t5 t6 t7
        rw [List.length_drop] at t2
        have hsb := (H.out.below XB.out).drop a.2.1 hu
        generalize hk : a.2.1 = k at *
        have HKK := Lib.hid hk
        clear hk
        obtain ⟨A2, hA2⟩ : ∃ A2, (if c = k then A else A.map (·.add k)) = A2 := ⟨_, rfl⟩
        rw [hA2] at hsb
        have HS : Hid (Sb wr (.slice A2 (b.length - k) (c - k)) (b.drop k)) := hsb
        clear hsb
        go_wp2_with fail
        refine (takes_c _ _ _ HS.out (by rw [List.length_drop]; omega)).mono ?_
        rw [T1.out]
        rintro e w9 ⟨rfl, hb9⟩
        by_cases her : er = 0
        · subst her
          by_cases hn1 : n < -p.y
          · have EV := Lib.hid (HVD.out HK.out (by rw [T6.out rfl (.inl hn1)]; decide))
            have T6x := Lib.hid (T6.out rfl (.inl hn1))
            clear T1 T5 T6 T7
            have zz0 := (XZ.out.below hb9).sto 0 0 0
            obtain ⟨y0, f0, y1, f1, y2, f2, s3⟩ := zz0
            have S3 := Lib.hid s3
            have B9 := Lib.hid (below_then XB.out XB.out.size hb9)
            clear s3 hb9
            dsimp only at y0 y1 y2
            go_wp2_with fail
            refine bodyPost_ret (v := .tuple #[cv ⟨0, 0, 0⟩, _, _]) (res3 Try.results34 _ _ _ _ rfl S3.out) rfl ⟨?_, below_sto B9.out (by omega) _ _ _⟩
            rw [EV.out, T6x.out]
            rfl
          · by_cases hn2 : 4611686018427387903 - p.y < n
            · have EV := Lib.hid (HVD.out HK.out (by rw [T6.out rfl (.inr hn2)]; decide))
              have T6x := Lib.hid (T6.out rfl (.inr hn2))
              clear T1 T5 T6 T7
              have zz0 := (XZ.out.below hb9).sto 0 0 0
              obtain ⟨y0, f0, y1, f1, y2, f2, s3⟩ := zz0
              have S3 := Lib.hid s3
              have B9 := Lib.hid (below_then XB.out XB.out.size hb9)
              clear s3 hb9
              dsimp only at y0 y1 y2
              go_wp2_with fail
              refine bodyPost_ret (v := .tuple #[cv ⟨0, 0, 0⟩, _, _]) (res3 Try.results34 _ _ _ _ rfl S3.out) rfl ⟨?_, below_sto B9.out (by omega) _ _ _⟩
              rw [EV.out, T6x.out]
              rfl
            · have EN := T7.out rfl (by omega)
              have hbx := (XC.out.below hb9)
              have q0 := hbx.c1
              have q1 := hbx.fr 1
              have HBX := Lib.hid (hbx.set1 (p.y + n))
              have B9 := Lib.hid (below_then XB.out XB.out.size hb9)
              have Z9 := Lib.hid (XZ.out.below hb9)
              have HEN := Lib.hid EN
              clear T1 T5 T6 T7 hbx hb9 EN
              go_wp2_with fail
              go_roundg 1
              case measure => omega
              case rel =>
                refine ⟨B9.out.setCell (show w.heap.size ≤ hc by omega) _, Z9.out.other (show w.heap.size + 1 ≠ hc by omega) _, .inr (.inr (.inl ⟨rfl, rfl, ?_, ?_, ?_, ?_⟩))⟩
                · have h0 := HKK.out
                  first
                    | (rw [HEN.out]; done)
                    | (rw [HEN.out]; dsimp only; rw [← h0]; go_num; done)
                · unfold Hid
                  rw [HEN.out]
                  exact HBX.out
                · have h0 := HKK.out
                  rw [HEN.out]
                  dsimp only
                  first | done | omega
                · exact Lib.hid ⟨HK.out, by rw [HEN.out]⟩
        · have hvb : (er != 0) = true := by rw [bne_iff_ne]; exact her
          have EV := Lib.hid (HVD.out HK.out (by rw [T5.out her]; exact her))
          have T5x := Lib.hid (T5.out her)
          clear T1 T5 T6 T7 her
          have zz0 := (XZ.out.below hb9).sto 0 0 0
          obtain ⟨y0, f0, y1, f1, y2, f2, s3⟩ := zz0
          have S3 := Lib.hid s3
          have B9 := Lib.hid (below_then XB.out XB.out.size hb9)
          clear s3 hb9
          dsimp only at y0 y1 y2
          go_wp2_with fail
          refine bodyPost_ret (v := .tuple #[cv ⟨0, 0, 0⟩, _, _]) (res3 Try.results34 _ _ _ _ rfl S3.out) rfl ⟨?_, below_sto B9.out (by omega) _ _ _⟩
          rw [EV.out, T5x.out]
          rfl
      · obtain ⟨n, sz, er, t1, t2, t3, t4, t5, t6, t7⟩ := ct1_spec p.z (b.drop (a.2.1 + d.2.1))
        rw [HF.out] at t5 t6 t7
        have T1 := Lib.hid t1
        have T5 := Lib.hid t5
        have T6 := Lib.hid t6
        have T7 := Lib.hid t7
        clear t1 t5 t6 t7
        rw [List.length_drop] at t2
        have hsb := (H.out.below XB.out).drop (a.2.1 + d.2.1) hu
        generalize hk : (a.2.1 + d.2.1) = k at *
        have HKK := Lib.hid hk
        clear hk
        obtain ⟨A2, hA2⟩ : ∃ A2, (if c = k then A else A.map (·.add k)) = A2 := ⟨_, rfl⟩
        rw [hA2] at hsb
        have HS : Hid (Sb wr (.slice A2 (b.length - k) (c - k)) (b.drop k)) := hsb
        clear hsb
        go_wp2_with fail
        refine (takes_c _ _ _ HS.out (by rw [List.length_drop]; omega)).mono ?_
        rw [T1.out]
        rintro e w9 ⟨rfl, hb9⟩
        by_cases her : er = 0
        · subst her
          by_cases hn1 : n < -p.z
          · have EV := Lib.hid (HVF.out HK.out (by rw [T6.out rfl (.inl hn1)]; decide))
            have T6x := Lib.hid (T6.out rfl (.inl hn1))
            clear T1 T5 T6 T7
            have zz0 := (XZ.out.below hb9).sto 0 0 0
            obtain ⟨y0, f0, y1, f1, y2, f2, s3⟩ := zz0
            have S3 := Lib.hid s3
            have B9 := Lib.hid (below_then XB.out XB.out.size hb9)
            clear s3 hb9
            dsimp only at y0 y1 y2
            go_wp2_with fail
            refine bodyPost_ret (v := .tuple #[cv ⟨0, 0, 0⟩, _, _]) (res3 Try.results34 _ _ _ _ rfl S3.out) rfl ⟨?_, below_sto B9.out (by omega) _ _ _⟩
            rw [EV.out, T6x.out]
            rfl
          · by_cases hn2 : 4611686018427387903 - p.z < n
            · have EV := Lib.hid (HVF.out HK.out (by rw [T6.out rfl (.inr hn2)]; decide))
              have T6x := Lib.hid (T6.out rfl (.inr hn2))
              clear T1 T5 T6 T7
              have zz0 := (XZ.out.below hb9).sto 0 0 0
              obtain ⟨y0, f0, y1, f1, y2, f2, s3⟩ := zz0
              have S3 := Lib.hid s3
              have B9 := Lib.hid (below_then XB.out XB.out.size hb9)
              clear s3 hb9
              dsimp only at y0 y1 y2
              go_wp2_with fail
              refine bodyPost_ret (v := .tuple #[cv ⟨0, 0, 0⟩, _, _]) (res3 Try.results34 _ _ _ _ rfl S3.out) rfl ⟨?_, below_sto B9.out (by omega) _ _ _⟩
              rw [EV.out, T6x.out]
              rfl
            · have EN := T7.out rfl (by omega)
              have hbx := (XC.out.below hb9)
              have q0 := hbx.c2
              have q1 := hbx.fr 2
              have HBX := Lib.hid (hbx.set2 (p.z + n))
              have B9 := Lib.hid (below_then XB.out XB.out.size hb9)
              have Z9 := Lib.hid (XZ.out.below hb9)
              have HEN := Lib.hid EN
              clear T1 T5 T6 T7 hbx hb9 EN
              go_wp2_with fail
              go_roundg 0
              case measure => omega
              case rel =>
                refine ⟨B9.out.setCell (show w.heap.size ≤ hc by omega) _, Z9.out.other (show w.heap.size + 1 ≠ hc by omega) _, .inr (.inr (.inr (⟨rfl, rfl, ?_, ?_, ?_, ?_⟩)))⟩
                · have h0 := HKK.out
                  first
                    | (rw [HEN.out]; done)
                    | (rw [HEN.out]; dsimp only; rw [← h0]; go_num; done)
                · unfold Hid
                  rw [HEN.out]
                  exact HBX.out
                · have h0 := HKK.out
                  rw [HEN.out]
                  dsimp only
                  first | done | omega
                · exact Lib.hid ⟨HK.out.1, HK.out.2, by rw [HEN.out]⟩
        · have hvb : (er != 0) = true := by rw [bne_iff_ne]; exact her
          have EV := Lib.hid (HVF.out HK.out (by rw [T5.out her]; exact her))
          have T5x := Lib.hid (T5.out her)
          clear T1 T5 T6 T7 her
          have zz0 := (XZ.out.below hb9).sto 0 0 0
          obtain ⟨y0, f0, y1, f1, y2, f2, s3⟩ := zz0
          have S3 := Lib.hid s3
          have B9 := Lib.hid (below_then XB.out XB.out.size hb9)
          clear s3 hb9
          dsimp only at y0 y1 y2
          go_wp2_with fail
          refine bodyPost_ret (v := .tuple #[cv ⟨0, 0, 0⟩, _, _]) (res3 Try.results34 _ _ _ _ rfl S3.out) rfl ⟨?_, below_sto B9.out (by omega) _ _ _⟩
          rw [EV.out, T5x.out]
          rfl
      · have EV := Lib.hid (HVO.out HK.out)
        have hbx := XC.out
        have q0 := hbx.c0
        have q1 := hbx.c1
        have q2 := hbx.c2
        obtain ⟨y0, f0, y1, f1, y2, f2, s3⟩ := XZ.out.sto a.1 d.1 f.1
        have S3 := Lib.hid s3
        clear s3 hbx
        dsimp only at y0 y1 y2 q0 q1 q2
        generalize hk : a.2.1 + d.2.1 + f.2.1 = k at *
        have HKK := Lib.hid hk
        clear hk
        go_wp2_with fail
        refine bodyPost_ret (v := .tuple #[cv ⟨a.1, d.1, f.1⟩, _, _]) (res3 Try.results34 _ _ _ _ rfl S3.out) rfl ⟨?_, below_sto XB.out (by omega) _ _ _⟩
        rw [EV.out]
        rfl
end Go.Proofs.Ytfcbpdokilidgaa

