/- Walks through clock.Beside, clock.Step (printed by gen_step.py). -/
import Derived.Test.YtfcbpdokilidgaaClkC
namespace Go.Proofs.Ytfcbpdokilidgaa
open Go.RowKit
set_option linter.unusedVariables false
set_option linter.unusedSimpArgs false

section
variable {w : World} {b : Nat} {c : Clk}
theorem Bx.sto (h : Bx w b c) (x y z : Int) : w.cell? ⟨b, 0, none⟩ = some (.int .i64 c.x) ∧ w.frozen? ⟨b, 0, none⟩ = false ∧
    (w.setCell ⟨b, 0, none⟩ (.int .i64 x)).cell? ⟨b, 1, none⟩ = some (.int .i64 c.y) ∧ (w.setCell ⟨b, 0, none⟩ (.int .i64 x)).frozen? ⟨b, 1, none⟩ = false ∧
    ((w.setCell ⟨b, 0, none⟩ (.int .i64 x)).setCell ⟨b, 1, none⟩ (.int .i64 y)).cell? ⟨b, 2, none⟩ = some (.int .i64 c.z) ∧ ((w.setCell ⟨b, 0, none⟩ (.int .i64 x)).setCell ⟨b, 1, none⟩ (.int .i64 y)).frozen? ⟨b, 2, none⟩ = false ∧
    Bx (((w.setCell ⟨b, 0, none⟩ (.int .i64 x)).setCell ⟨b, 1, none⟩ (.int .i64 y)).setCell ⟨b, 2, none⟩ (.int .i64 z)) b ⟨x, y, z⟩ :=
  ⟨h.c0, h.fr 0, (h.set0 x).c1, (h.set0 x).fr 1, ((h.set0 x).set1 y).c2, ((h.set0 x).set1 y).fr 2, ((h.set0 x).set1 y).set2 z⟩
theorem below_sto {B0 : Nat} {a : World} (h : Below B0 a w) {b : Nat} (hb : B0 ≤ b) (x y z : Value) : Below B0 a (((w.setCell ⟨b, 0, none⟩ x).setCell ⟨b, 1, none⟩ y).setCell ⟨b, 2, none⟩ z) :=
  ((h.setCell hb _).setCell hb _).setCell hb _
end
theorem res2 {fn : Func} {p q : Tmp} (h : fn.results = #[.cell p 54, .tmp q]) (tmps : Array Value) (w : World) (b : Nat) (c : Clk)
    (hp : tmps.getD p undef = .pointer (some ⟨b, 0, none⟩)) (hb : Bx w b c) : (results fn tmps).run Try.prog w = .ok (.tuple #[cv c, tmps.getD q undef]) w := by
  have hp' : tmps[p]?.getD undef = .pointer (some ⟨b, 0, none⟩) := by simpa using hp
  have hi : (Try.prog.info? 54).map (·.size) = some 3 := by kernel_rfl
  have hl := run_loadVar_row (P := Try.prog) w b 54 54 _ _ _ hb Try.underlying54 rfl hi
  simp [results, h, hp', asAddr, hl, cv]
theorem res3 {fn : Func} {p q r : Tmp} (h : fn.results = #[.cell p 54, .tmp q, .tmp r]) (tmps : Array Value) (w : World) (b : Nat) (c : Clk)
    (hp : tmps.getD p undef = .pointer (some ⟨b, 0, none⟩)) (hb : Bx w b c) : (results fn tmps).run Try.prog w = .ok (.tuple #[cv c, tmps.getD q undef, tmps.getD r undef]) w := by
  have hp' : tmps[p]?.getD undef = .pointer (some ⟨b, 0, none⟩) := by simpa using hp
  have hi : (Try.prog.info? 54).map (·.size) = some 3 := by kernel_rfl
  have hl := run_loadVar_row (P := Try.prog) w b 54 54 _ _ _ hb Try.underlying54 rfl hi
  simp [results, h, hp', asAddr, hl, cv]

set_option maxHeartbeats 1000000 in
theorem beside_c (a b : Clk) (w : World) : Calls Try.prog 41 #[cv a, cv b] w (RetV w (.bool (!covF a b && !covF b a))) := by
  have ha := Bx.new w a
  have hb := Bx.new (w.alloc (.cells #[.int .i64 a.x, .int .i64 a.y, .int .i64 a.z] 54)) b
  have hA := Lib.hid (Bx.alloc ha (.cells #[.int .i64 b.x, .int .i64 b.y, .int .i64 b.z] 54))
  have hB := Lib.hid hb
  clear ha hb
  obtain ⟨f, hf⟩ : ∃ f, covF a b = f := ⟨_, rfl⟩
  obtain ⟨g, hg⟩ : ∃ g, covF b a = g := ⟨_, rfl⟩
  rw [hf, hg]
  have HF := Lib.hid hf
  have HG := Lib.hid hg
  clear hf hg
  go_enter Try.func41, Try.ntmps41
  unfold cv
  go_wp2_with fail
  refine (covers_c a b _).mono ?_
  rw [HF.out]
  rintro e w1 ⟨rfl, hb1⟩
  have q0 := (hA.out.below hb1).c0
  have q1 := (hA.out.below hb1).c1
  have q2 := (hA.out.below hb1).c2
  have r0 := (hB.out.below hb1).c0
  have r1 := (hB.out.below hb1).c1
  have r2 := (hB.out.below hb1).c2
  simp only [World.size_alloc] at r0 r1 r2
  have C1 := Lib.hid (gthen (gthen (galloc _ _) (galloc _ _)) hb1)
  clear hb1 hA hB
  cases f with
  | true =>
    go_wp2_with fail
    go_ret
    exact ⟨rfl, C1.out⟩
  | false =>
    go_wp2_with fail
    refine (covers_c b a _).mono ?_
    rw [HG.out]
    rintro e w2 ⟨rfl, hb2⟩
    have C2 := Lib.hid (gthen C1.out hb2)
    clear hb2
    cases g
    all_goals
      go_wp2_with fail
      go_ret
      exact ⟨rfl, C2.out⟩

def getC (c : Clk) (o : Int) : Int := if o = 0 then c.x else if o = 1 then c.y else c.z
def setC (c : Clk) (o n : Int) : Clk := if o = 0 then ⟨n, c.y, c.z⟩ else if o = 1 then ⟨c.x, n, c.z⟩ else ⟨c.x, c.y, n⟩
def stepF (c : Clk) (o : Int) : Clk × Int :=
  if rightF c = false then (⟨0, 0, 0⟩, 1) else if o < 0 ∨ 3 ≤ o then (⟨0, 0, 0⟩, 9) else if getC c o = 4611686018427387903 then (⟨0, 0, 0⟩, 10) else (setC c o (getC c o + 1), 0)
def pv (r : Clk × Int) : Value := .tuple #[cv r.1, .int .i64 r.2]
theorem right_bounds {c : Clk} (h : rightF c = true) : (0 ≤ c.x ∧ c.x ≤ 4611686018427387903) ∧ (0 ≤ c.y ∧ c.y ≤ 4611686018427387903) ∧ (0 ≤ c.z ∧ c.z ≤ 4611686018427387903) := by
  simp only [rightF, Bool.and_eq_true, decide_eq_true_eq] at h
  omega

set_option maxHeartbeats 1000000 in
theorem step_c (c : Clk) (o : Int) (w : World) (h1 : -9223372036854775808 ≤ o) (h2 : o ≤ 9223372036854775807) : Calls Try.prog 30 #[cv c, .int .i64 o] w (RetV w (pv (stepF c o))) := by
  have ha := Bx.new w c
  have hA := Lib.hid (Bx.alloc ha (.cells #[.int .i64 0, .int .i64 0, .int .i64 0] 54))
  have hZ := Lib.hid (Bx.new (w.alloc (.cells #[.int .i64 c.x, .int .i64 c.y, .int .i64 c.z] 54)) ⟨0, 0, 0⟩)
  clear ha
  cases hr : rightF c with
  | false =>
    have e : stepF c o = (⟨0, 0, 0⟩, 1) := if_pos hr
    rw [e]
    have HR := Lib.hid hr
    clear e hr
    unfold pv
    dsimp only
    go_enter Try.func30, Try.ntmps30
    unfold cv
    go_wp2_with (go_at_call 38; refine (right_c c _).mono ?_; rw [HR.out]; rintro e w1 ⟨rfl, hb1⟩; have A1 := Lib.hid (hA.out.below hb1); have z1 := hZ.out.below hb1; simp only [World.size_alloc] at z1; have Z1 := Lib.hid z1; have C1 := Lib.hid (gthen (gthen (galloc _ _) (galloc _ _)) hb1); clear hb1 z1; obtain ⟨y0, f0, y1, f1, y2, f2, s3⟩ := Z1.out.sto 0 0 0; have S3 := Lib.hid s3; clear s3; dsimp only at y0 y1 y2; have p0 := A1.out.c0; have p1 := A1.out.c1; have p2 := A1.out.c2)
    refine bodyPost_ret (v := .tuple #[cv ⟨0, 0, 0⟩, _]) (res2 Try.results30 _ _ _ _ rfl S3.out) rfl ⟨rfl, below_sto C1.out (by omega) _ _ _⟩
  | true =>
    obtain ⟨⟨bx0, bx1⟩, ⟨by0, by1⟩, bz0, bz1⟩ := right_bounds hr
    have HR := Lib.hid hr
    by_cases ho : o < 0 ∨ 3 ≤ o
    · have e : stepF c o = (⟨0, 0, 0⟩, 9) := by unfold stepF; rw [if_neg (by rw [hr]; decide), if_pos ho]
      rw [e]
      clear e hr
      unfold pv
      dsimp only
      rcases ho with ho | ho
      · go_enter Try.func30, Try.ntmps30
        unfold cv
        go_wp2_with (go_at_call 38; refine (right_c c _).mono ?_; rw [HR.out]; rintro e w1 ⟨rfl, hb1⟩; have A1 := Lib.hid (hA.out.below hb1); have z1 := hZ.out.below hb1; simp only [World.size_alloc] at z1; have Z1 := Lib.hid z1; have C1 := Lib.hid (gthen (gthen (galloc _ _) (galloc _ _)) hb1); clear hb1 z1; obtain ⟨y0, f0, y1, f1, y2, f2, s3⟩ := Z1.out.sto 0 0 0; have S3 := Lib.hid s3; clear s3; dsimp only at y0 y1 y2; have p0 := A1.out.c0; have p1 := A1.out.c1; have p2 := A1.out.c2)
        refine bodyPost_ret (v := .tuple #[cv ⟨0, 0, 0⟩, _]) (res2 Try.results30 _ _ _ _ rfl S3.out) rfl ⟨rfl, below_sto C1.out (by omega) _ _ _⟩
      · have ho2 : ¬ o < 0 := by omega
        go_enter Try.func30, Try.ntmps30
        unfold cv
        go_wp2_with (go_at_call 38; refine (right_c c _).mono ?_; rw [HR.out]; rintro e w1 ⟨rfl, hb1⟩; have A1 := Lib.hid (hA.out.below hb1); have z1 := hZ.out.below hb1; simp only [World.size_alloc] at z1; have Z1 := Lib.hid z1; have C1 := Lib.hid (gthen (gthen (galloc _ _) (galloc _ _)) hb1); clear hb1 z1; obtain ⟨y0, f0, y1, f1, y2, f2, s3⟩ := Z1.out.sto 0 0 0; have S3 := Lib.hid s3; clear s3; dsimp only at y0 y1 y2; have p0 := A1.out.c0; have p1 := A1.out.c1; have p2 := A1.out.c2)
        refine bodyPost_ret (v := .tuple #[cv ⟨0, 0, 0⟩, _]) (res2 Try.results30 _ _ _ _ rfl S3.out) rfl ⟨rfl, below_sto C1.out (by omega) _ _ _⟩
    · have hoo : o = 0 ∨ o = 1 ∨ o = 2 := by omega
      clear ho h1 h2
      rcases hoo with rfl | rfl | rfl
      · by_cases hm : c.x = 4611686018427387903
        · have e : stepF c 0 = (⟨0, 0, 0⟩, 10) := by unfold stepF; rw [if_neg (by rw [hr]; decide), if_neg (by decide), if_pos (by simpa [getC] using hm)]
          rw [e]
          have hmb : (c.x == 4611686018427387903) = true := by rw [hm]; rfl
          have HM := Lib.hid hm
          clear e hr hm
          unfold pv
          dsimp only
          go_enter Try.func30, Try.ntmps30
          unfold cv
          go_wp2_with (go_at_call 38; refine (right_c c _).mono ?_; rw [HR.out]; rintro e w1 ⟨rfl, hb1⟩; have A1 := Lib.hid (hA.out.below hb1); have z1 := hZ.out.below hb1; simp only [World.size_alloc] at z1; have Z1 := Lib.hid z1; have C1 := Lib.hid (gthen (gthen (galloc _ _) (galloc _ _)) hb1); clear hb1 z1; obtain ⟨y0, f0, y1, f1, y2, f2, s3⟩ := Z1.out.sto 0 0 0; have S3 := Lib.hid s3; clear s3; dsimp only at y0 y1 y2; have p0 := A1.out.c0; have p1 := A1.out.c1; have p2 := A1.out.c2)
          refine bodyPost_ret (v := .tuple #[cv ⟨0, 0, 0⟩, _]) (res2 Try.results30 _ _ _ _ rfl S3.out) rfl ⟨rfl, below_sto C1.out (by omega) _ _ _⟩
        · have e : stepF c 0 = (⟨c.x + 1, c.y, c.z⟩, 0) := by unfold stepF; rw [if_neg (by rw [hr]; decide), if_neg (by decide), if_neg (by simpa [getC] using hm)]; rfl
          rw [e]
          have hmb : (c.x == 4611686018427387903) = false := beq_eq_false_iff_ne.2 hm
          clear e hr hm
          unfold pv
          dsimp only
          go_enter Try.func30, Try.ntmps30
          unfold cv
          go_wp2_with (go_at_call 38; refine (right_c c _).mono ?_; rw [HR.out]; rintro e w1 ⟨rfl, hb1⟩; have A1 := Lib.hid (hA.out.below hb1); have z1 := hZ.out.below hb1; simp only [World.size_alloc] at z1; have Z1 := Lib.hid z1; have C1 := Lib.hid (gthen (gthen (galloc _ _) (galloc _ _)) hb1); clear hb1 z1; obtain ⟨y0, f0, y1, f1, y2, f2, s3⟩ := (Z1.out.other (a := ⟨w.heap.size, 0, none⟩) (by simp) (.int .i64 (c.x + 1))).sto (c.x + 1) c.y c.z; have S3 := Lib.hid s3; clear s3; have g0 := A1.out.fr 0; dsimp only at y0 y1 y2; have p0 := A1.out.c0; have p1 := A1.out.c1; have p2 := A1.out.c2)
          refine bodyPost_ret (v := .tuple #[cv ⟨c.x + 1, c.y, c.z⟩, _]) (res2 Try.results30 _ _ _ _ rfl S3.out) rfl ⟨rfl, below_sto (C1.out.setCell (Nat.le_refl _) _) (by omega) _ _ _⟩
      · by_cases hm : c.y = 4611686018427387903
        · have e : stepF c 1 = (⟨0, 0, 0⟩, 10) := by unfold stepF; rw [if_neg (by rw [hr]; decide), if_neg (by decide), if_pos (by simpa [getC] using hm)]
          rw [e]
          have hmb : (c.y == 4611686018427387903) = true := by rw [hm]; rfl
          have HM := Lib.hid hm
          clear e hr hm
          unfold pv
          dsimp only
          go_enter Try.func30, Try.ntmps30
          unfold cv
          go_wp2_with (go_at_call 38; refine (right_c c _).mono ?_; rw [HR.out]; rintro e w1 ⟨rfl, hb1⟩; have A1 := Lib.hid (hA.out.below hb1); have z1 := hZ.out.below hb1; simp only [World.size_alloc] at z1; have Z1 := Lib.hid z1; have C1 := Lib.hid (gthen (gthen (galloc _ _) (galloc _ _)) hb1); clear hb1 z1; obtain ⟨y0, f0, y1, f1, y2, f2, s3⟩ := Z1.out.sto 0 0 0; have S3 := Lib.hid s3; clear s3; dsimp only at y0 y1 y2; have p0 := A1.out.c0; have p1 := A1.out.c1; have p2 := A1.out.c2)
          refine bodyPost_ret (v := .tuple #[cv ⟨0, 0, 0⟩, _]) (res2 Try.results30 _ _ _ _ rfl S3.out) rfl ⟨rfl, below_sto C1.out (by omega) _ _ _⟩
        · have e : stepF c 1 = (⟨c.x, c.y + 1, c.z⟩, 0) := by unfold stepF; rw [if_neg (by rw [hr]; decide), if_neg (by decide), if_neg (by simpa [getC] using hm)]; rfl
          rw [e]
          have hmb : (c.y == 4611686018427387903) = false := beq_eq_false_iff_ne.2 hm
          clear e hr hm
          unfold pv
          dsimp only
          go_enter Try.func30, Try.ntmps30
          unfold cv
          go_wp2_with (go_at_call 38; refine (right_c c _).mono ?_; rw [HR.out]; rintro e w1 ⟨rfl, hb1⟩; have A1 := Lib.hid (hA.out.below hb1); have z1 := hZ.out.below hb1; simp only [World.size_alloc] at z1; have Z1 := Lib.hid z1; have C1 := Lib.hid (gthen (gthen (galloc _ _) (galloc _ _)) hb1); clear hb1 z1; obtain ⟨y0, f0, y1, f1, y2, f2, s3⟩ := (Z1.out.other (a := ⟨w.heap.size, 1, none⟩) (by simp) (.int .i64 (c.y + 1))).sto c.x (c.y + 1) c.z; have S3 := Lib.hid s3; clear s3; have g0 := A1.out.fr 1; dsimp only at y0 y1 y2; have p0 := A1.out.c0; have p1 := A1.out.c1; have p2 := A1.out.c2)
          refine bodyPost_ret (v := .tuple #[cv ⟨c.x, c.y + 1, c.z⟩, _]) (res2 Try.results30 _ _ _ _ rfl S3.out) rfl ⟨rfl, below_sto (C1.out.setCell (Nat.le_refl _) _) (by omega) _ _ _⟩
      · by_cases hm : c.z = 4611686018427387903
        · have e : stepF c 2 = (⟨0, 0, 0⟩, 10) := by unfold stepF; rw [if_neg (by rw [hr]; decide), if_neg (by decide), if_pos (by simpa [getC] using hm)]
          rw [e]
          have hmb : (c.z == 4611686018427387903) = true := by rw [hm]; rfl
          have HM := Lib.hid hm
          clear e hr hm
          unfold pv
          dsimp only
          go_enter Try.func30, Try.ntmps30
          unfold cv
          go_wp2_with (go_at_call 38; refine (right_c c _).mono ?_; rw [HR.out]; rintro e w1 ⟨rfl, hb1⟩; have A1 := Lib.hid (hA.out.below hb1); have z1 := hZ.out.below hb1; simp only [World.size_alloc] at z1; have Z1 := Lib.hid z1; have C1 := Lib.hid (gthen (gthen (galloc _ _) (galloc _ _)) hb1); clear hb1 z1; obtain ⟨y0, f0, y1, f1, y2, f2, s3⟩ := Z1.out.sto 0 0 0; have S3 := Lib.hid s3; clear s3; dsimp only at y0 y1 y2; have p0 := A1.out.c0; have p1 := A1.out.c1; have p2 := A1.out.c2)
          refine bodyPost_ret (v := .tuple #[cv ⟨0, 0, 0⟩, _]) (res2 Try.results30 _ _ _ _ rfl S3.out) rfl ⟨rfl, below_sto C1.out (by omega) _ _ _⟩
        · have e : stepF c 2 = (⟨c.x, c.y, c.z + 1⟩, 0) := by unfold stepF; rw [if_neg (by rw [hr]; decide), if_neg (by decide), if_neg (by simpa [getC] using hm)]; rfl
          rw [e]
          have hmb : (c.z == 4611686018427387903) = false := beq_eq_false_iff_ne.2 hm
          clear e hr hm
          unfold pv
          dsimp only
          go_enter Try.func30, Try.ntmps30
          unfold cv
          go_wp2_with (go_at_call 38; refine (right_c c _).mono ?_; rw [HR.out]; rintro e w1 ⟨rfl, hb1⟩; have A1 := Lib.hid (hA.out.below hb1); have z1 := hZ.out.below hb1; simp only [World.size_alloc] at z1; have Z1 := Lib.hid z1; have C1 := Lib.hid (gthen (gthen (galloc _ _) (galloc _ _)) hb1); clear hb1 z1; obtain ⟨y0, f0, y1, f1, y2, f2, s3⟩ := (Z1.out.other (a := ⟨w.heap.size, 2, none⟩) (by simp) (.int .i64 (c.z + 1))).sto c.x c.y (c.z + 1); have S3 := Lib.hid s3; clear s3; have g0 := A1.out.fr 2; dsimp only at y0 y1 y2; have p0 := A1.out.c0; have p1 := A1.out.c1; have p2 := A1.out.c2)
          refine bodyPost_ret (v := .tuple #[cv ⟨c.x, c.y, c.z + 1⟩, _]) (res2 Try.results30 _ _ _ _ rfl S3.out) rfl ⟨rfl, below_sto (C1.out.setCell (Nat.le_refl _) _) (by omega) _ _ _⟩
end Go.Proofs.Ytfcbpdokilidgaa
