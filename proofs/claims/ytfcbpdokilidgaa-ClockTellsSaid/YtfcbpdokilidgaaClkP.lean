/- Walk through clock.Put (printed by gen_cput.py). -/
import Derived.Test.YtfcbpdokilidgaaClkS
import Derived.Test.YtfcbpdokilidgaaVintS
namespace Go.Proofs.Ytfcbpdokilidgaa
open Go.RowKit
set_option linter.unusedVariables false
set_option linter.unusedSimpArgs false

def zz (m : Int) : List UInt8 := vput (zigF m).toNat
theorem zz_len (m : Int) : (zz m).length ≤ 10 := vput_len (UInt64.toNat_lt _)
def cputF (p c : Clk) : List UInt8 × Int := if rightF p = true ∧ rightF c = true then (zz (c.x - p.x) ++ zz (c.y - p.y) ++ zz (c.z - p.z), 0) else ([], 1)

set_option maxRecDepth 100000 in
set_option maxHeartbeats 1000000 in
theorem cput_c (p c : Clk) (w : World) : Calls Try.prog 32 #[cv p, cv c] w (RetBE w (cputF p c).1 (cputF p c).2) := by
  have ha := Bx.new w p
  have hA := Lib.hid (Bx.alloc ha (.cells #[.int .i64 c.x, .int .i64 c.y, .int .i64 c.z] 54))
  have hB := Lib.hid (Bx.new (w.alloc (.cells #[.int .i64 p.x, .int .i64 p.y, .int .i64 p.z] 54)) c)
  clear ha
  cases hr : rightF p with
  | false =>
    have e : cputF p c = ([], 1) := if_neg (by rw [hr]; simp)
    rw [e]
    have HR := Lib.hid hr
    clear e hr
    go_enter Try.func32, Try.ntmps32
    unfold cv
    go_wp2_with fail
    refine (right_c p _).mono ?_
    rw [HR.out]
    rintro e w1 ⟨rfl, hb1⟩
    have C1 := Lib.hid (gthen (gthen (galloc _ _) (galloc _ _)) hb1)
    clear hb1
    go_wp2_with fail
    go_ret2
    exact ⟨_, rfl, Ob.nil _ _, C1.out⟩
  | true =>
    have HR := Lib.hid hr
    go_enter Try.func32, Try.ntmps32
    unfold cv
    go_wp2_with fail
    refine (right_c p _).mono ?_
    rw [HR.out]
    rintro e w1 ⟨rfl, hb1⟩
    have C1 := Lib.hid (gthen (gthen (galloc _ _) (galloc _ _)) hb1)
    have A1 := Lib.hid (hA.out.below hb1)
    have r0 := (hB.out.below hb1).c0
    have r1 := (hB.out.below hb1).c1
    have r2 := (hB.out.below hb1).c2
    have b1 := hB.out.below hb1
    have s1 := hb1.size
    simp only [World.size_alloc] at r0 r1 r2 b1 s1
    have B1 := Lib.hid b1
    clear hb1 b1
    go_wp2_with fail
    refine (right_c c _).mono ?_
    cases hr2 : rightF c with
    | false =>
      have e : cputF p c = ([], 1) := if_neg (by rw [hr2]; simp)
      have HE := Lib.hid e
      clear e hr hr2 hA hB
      rintro e w2 ⟨rfl, hb2⟩
      have C2 := Lib.hid (gthen C1.out hb2)
      clear hb2
      go_wp2_with fail
      go_ret2
      rw [HE.out]
      exact ⟨_, rfl, Ob.nil _ _, C2.out⟩
    | true =>
      have e : cputF p c = (zz (c.x - p.x) ++ zz (c.y - p.y) ++ zz (c.z - p.z), 0) := if_pos ⟨hr, hr2⟩
      have HE := Lib.hid e
      obtain ⟨⟨bx0, bx1⟩, ⟨by0, by1⟩, bz0, bz1⟩ := right_bounds hr
      obtain ⟨⟨cx0, cx1⟩, ⟨cy0, cy1⟩, cz0, cz1⟩ := right_bounds hr2
      clear e hr hr2 hA hB
      rintro e w2 ⟨rfl, hb2⟩
      have C2 := Lib.hid (gthen C1.out hb2)
      have A2 := Lib.hid (A1.out.below hb2)
      have s2 : w.heap.size + 2 ≤ w2.heap.size := by have := hb2.size; omega
      clear r0 r1 r2
      have t0 := (B1.out.below hb2).c0
      have t1 := (B1.out.below hb2).c1
      have t2 := (B1.out.below hb2).c2
      clear hb2
      have i0 : ∀ w, (Instr.index 54 (.agg #[.int .i64 c.x, .int .i64 c.y, .int .i64 c.z]) (.int .i64 0)).run Try.prog w = .ok (.int .i64 c.x) w := fun _ => by kernel_rfl
      have i1 : ∀ w, (Instr.index 54 (.agg #[.int .i64 c.x, .int .i64 c.y, .int .i64 c.z]) (.int .i64 1)).run Try.prog w = .ok (.int .i64 c.y) w := fun _ => by kernel_rfl
      have i2 : ∀ w, (Instr.index 54 (.agg #[.int .i64 c.x, .int .i64 c.y, .int .i64 c.z]) (.int .i64 2)).run Try.prog w = .ok (.int .i64 c.z) w := fun _ => by kernel_rfl
      go_wp2_with fail
      clear t0 t1 t2
      go_loopg [6, 18] (3) (fun g u i wr => Hid (Below w.heap.size w wr) ∧ Hid (Bx wr w.heap.size p) ∧ w.heap.size + 2 ≤ wr.heap.size ∧ ((g = 3 ∧ i = .int .i64 0 ∧ Hid (Ob wr (w.heap.size + 2) u ([]))) ∨ (g = 2 ∧ i = .int .i64 1 ∧ Hid (Ob wr (w.heap.size + 2) u (zz (c.x - p.x)))) ∨ (g = 1 ∧ i = .int .i64 2 ∧ Hid (Ob wr (w.heap.size + 2) u (zz (c.x - p.x) ++ zz (c.y - p.y)))) ∨ (g = 0 ∧ i = .int .i64 3 ∧ Hid (Ob wr (w.heap.size + 2) u (zz (c.x - p.x) ++ zz (c.y - p.y) ++ zz (c.z - p.z))))))
      case atStart => exact ⟨C2.out, A2.out, s2, .inl ⟨rfl, rfl, Ob.nil _ _⟩⟩
      case round =>
        obtain ⟨XB, XP, xs, hcase⟩ := hrel
        clear C1 C2 A1 A2 B1 s1 s2
        rcases hcase with ⟨rfl, rfl, XO⟩ | ⟨rfl, rfl, XO⟩ | ⟨rfl, rfl, XO⟩ | ⟨rfl, rfl, XO⟩
        · have q0 := XP.out.c0
          obtain ⟨d, hd⟩ : ∃ d, ([] : List UInt8) = d := ⟨_, rfl⟩
          obtain ⟨m, hm⟩ : ∃ m, zz (c.x - p.x) = m := ⟨_, rfl⟩
          have hml : m.length ≤ 10 := by rw [← hm]; exact zz_len _
          have hdl : d.length ≤ 30 := by
            rw [← hd]
            simp
          have XO' : Hid (Ob wr (w.heap.size + 2) u6 d) := by rw [← hd]; exact XO
          have HD := Lib.hid hd
          have HM := Lib.hid hm
          clear hd hm XO
          go_wp2_with (first
            | (go_at_call 63; refine (puts_c (c.x - p.x) (by omega) (by omega) _).mono ?_; rw [show vput (zigF (c.x - p.x)).toNat = m from HM.out]; rintro e w9 ⟨up, rfl, ho9, hb9⟩)
            | (at_builtin; refine wpList_app _ rfl (.tmp 22) (.tmp 28) _ rfl (w.heap.size + 2) 5 _ 1 1 Try.underlying33 info_u8 rfl (by omega) _ d.length (d.map bv) rfl (own_below XO'.out hb9) _ m.length (m.map bv) rfl ho9.sb (bvs_one m) (by omega) (by simp only [maxLen]; omega) (Nat.le_trans xs hb9.size) ?_; intro v3 w3 hown3 hg3 hat3))
          go_roundg 2
          case measure => omega
          case rel =>
            have hbb := ((hb9.mono xs).grown hg3 (Nat.le_trans xs hb9.size) (own_ge XO'.out))
            refine ⟨XB.out.trans (hbb.mono (by omega)), (hbb.block w.heap.size (by omega)).trans XP.out, Nat.le_trans xs hbb.size, .inr (.inl ⟨rfl, rfl, ?_⟩)⟩
            unfold Hid Ob
            have h0 := hown3
            rw [← HD.out, ← HM.out] at h0
            simpa [Nat.add_assoc] using h0
        · have q0 := XP.out.c1
          obtain ⟨d, hd⟩ : ∃ d, zz (c.x - p.x) = d := ⟨_, rfl⟩
          obtain ⟨m, hm⟩ : ∃ m, zz (c.y - p.y) = m := ⟨_, rfl⟩
          have hml : m.length ≤ 10 := by rw [← hm]; exact zz_len _
          have hdl : d.length ≤ 30 := by
            rw [← hd]
            try simp only [List.length_append]
            have := zz_len (c.x - p.x)
            have := zz_len (c.y - p.y)
            omega
          have XO' : Hid (Ob wr (w.heap.size + 2) u6 d) := by rw [← hd]; exact XO
          have HD := Lib.hid hd
          have HM := Lib.hid hm
          clear hd hm XO
          go_wp2_with (first
            | (go_at_call 63; refine (puts_c (c.y - p.y) (by omega) (by omega) _).mono ?_; rw [show vput (zigF (c.y - p.y)).toNat = m from HM.out]; rintro e w9 ⟨up, rfl, ho9, hb9⟩)
            | (at_builtin; refine wpList_app _ rfl (.tmp 22) (.tmp 28) _ rfl (w.heap.size + 2) 5 _ 1 1 Try.underlying33 info_u8 rfl (by omega) _ d.length (d.map bv) rfl (own_below XO'.out hb9) _ m.length (m.map bv) rfl ho9.sb (bvs_one m) (by omega) (by simp only [maxLen]; omega) (Nat.le_trans xs hb9.size) ?_; intro v3 w3 hown3 hg3 hat3))
          go_roundg 1
          case measure => omega
          case rel =>
            have hbb := ((hb9.mono xs).grown hg3 (Nat.le_trans xs hb9.size) (own_ge XO'.out))
            refine ⟨XB.out.trans (hbb.mono (by omega)), (hbb.block w.heap.size (by omega)).trans XP.out, Nat.le_trans xs hbb.size, .inr (.inr (.inl ⟨rfl, rfl, ?_⟩))⟩
            unfold Hid Ob
            have h0 := hown3
            rw [← HD.out, ← HM.out] at h0
            simpa [Nat.add_assoc] using h0
        · have q0 := XP.out.c2
          obtain ⟨d, hd⟩ : ∃ d, zz (c.x - p.x) ++ zz (c.y - p.y) = d := ⟨_, rfl⟩
          obtain ⟨m, hm⟩ : ∃ m, zz (c.z - p.z) = m := ⟨_, rfl⟩
          have hml : m.length ≤ 10 := by rw [← hm]; exact zz_len _
          have hdl : d.length ≤ 30 := by
            rw [← hd]
            try simp only [List.length_append]
            have := zz_len (c.x - p.x)
            have := zz_len (c.y - p.y)
            omega
          have XO' : Hid (Ob wr (w.heap.size + 2) u6 d) := by rw [← hd]; exact XO
          have HD := Lib.hid hd
          have HM := Lib.hid hm
          clear hd hm XO
          go_wp2_with (first
            | (go_at_call 63; refine (puts_c (c.z - p.z) (by omega) (by omega) _).mono ?_; rw [show vput (zigF (c.z - p.z)).toNat = m from HM.out]; rintro e w9 ⟨up, rfl, ho9, hb9⟩)
            | (at_builtin; refine wpList_app _ rfl (.tmp 22) (.tmp 28) _ rfl (w.heap.size + 2) 5 _ 1 1 Try.underlying33 info_u8 rfl (by omega) _ d.length (d.map bv) rfl (own_below XO'.out hb9) _ m.length (m.map bv) rfl ho9.sb (bvs_one m) (by omega) (by simp only [maxLen]; omega) (Nat.le_trans xs hb9.size) ?_; intro v3 w3 hown3 hg3 hat3))
          go_roundg 0
          case measure => omega
          case rel =>
            have hbb := ((hb9.mono xs).grown hg3 (Nat.le_trans xs hb9.size) (own_ge XO'.out))
            refine ⟨XB.out.trans (hbb.mono (by omega)), (hbb.block w.heap.size (by omega)).trans XP.out, Nat.le_trans xs hbb.size, .inr (.inr (.inr ⟨rfl, rfl, ?_⟩))⟩
            unfold Hid Ob
            have h0 := hown3
            rw [← HD.out, ← HM.out] at h0
            simpa [Nat.add_assoc] using h0
        · go_wp2_with fail
          go_ret2
          rw [HE.out]
          exact ⟨_, rfl, XO.out.to (base' := w.heap.size) (by omega), XB.out⟩
end Go.Proofs.Ytfcbpdokilidgaa

