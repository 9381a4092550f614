/- Walk through law 01's awake(). -/
import Derived.Test.YtflhokgdkaophaaVintS
namespace Go.Proofs.Ytflhokgdkaophaa
open Go.RowKit
set_option linter.unusedVariables false
set_option linter.unusedSimpArgs false

theorem galloc (w : World) (o : Obj) : Below w.heap.size w (w.alloc o) := (Below.refl _ _).alloc (Nat.le_refl _) _

theorem vput_300 : vput 300 = [172, 2] := by
  rw [vput_ge (by decide), vput_lt (by decide)]; rfl
theorem vput_5 : vput 5 = [5] := by rw [vput_lt (by decide)]; rfl
theorem vput_1 : vput 1 = [1] := by rw [vput_lt (by decide)]; rfl
theorem vput_max : (vput 18446744073709551615).length = 10 := Nat.le_antisymm (vput_len (by decide)) (vput_len_gt 9 _ (by decide))
theorem vput_0 : (vput 0).length = 1 := by rw [vput_lt (by decide)]; rfl

theorem a1 : tkV (tk [172, 2, 9]) = .tuple #[.int .u64 300, .int .i64 2, .int .i64 0] := by
  have h := tk_put 300 [9]
  rw [show ((300 : UInt64).toNat) = 300 from rfl, vput_300] at h
  rw [show ([172, 2, 9] : List UInt8) = [172, 2] ++ [9] from rfl, h]; rfl
theorem a2 : tkV (tk [172]) = .tuple #[.int .u64 0, .int .i64 0, .int .i64 2] := by
  rw [tk_none (by decide)]; rfl
theorem a3 : tkV (tk [128, 0]) = .tuple #[.int .u64 0, .int .i64 0, .int .i64 3] := by
  rw [tk_some (s := 1) (by decide), if_neg]
  · rfl
  · rintro ⟨h, _⟩
    rw [show vval (List.take (1 + 1) [128, 0]) = 0 from rfl, vput_lt (by decide)] at h
    exact absurd h (by decide)
theorem a4 : tkV (tk [255, 255, 255, 255, 255, 255, 255, 255, 255, 2]) = .tuple #[.int .u64 0, .int .i64 0, .int .i64 3] :=
  tk_big (s := 9) (by decide) (by decide) ⟨rfl, by decide⟩
theorem a5 : tkS (tk [5]) = .tuple #[.int .i64 (-3), .int .i64 1, .int .i64 0] := by
  have h := tk_put 5 []
  rw [show ((5 : UInt64).toNat) = 5 from rfl, vput_5] at h
  rw [show ([5] : List UInt8) = [5] ++ [] from rfl, h]; rfl
theorem a6 : vput (zigF (-3)).toNat = [5] := vput_5
theorem a7 : vall [1, 300] = [1, 172, 2] := by
  show vput 1 ++ (vput 300 ++ []) = _
  rw [vput_1, vput_300]; rfl

theorem k1 (v : Value) (w : World) (h : Sb w v [172, 2, 9]) : Calls Try.prog 7 #[v] w (RetV w (.tuple #[.int .u64 300, .int .i64 2, .int .i64 0])) := a1 ▸ take_c v _ w h (by decide)
theorem k2 (v : Value) (w : World) (h : Sb w v [172]) : Calls Try.prog 7 #[v] w (RetV w (.tuple #[.int .u64 0, .int .i64 0, .int .i64 2])) := a2 ▸ take_c v _ w h (by decide)
theorem k3 (v : Value) (w : World) (h : Sb w v [128, 0]) : Calls Try.prog 7 #[v] w (RetV w (.tuple #[.int .u64 0, .int .i64 0, .int .i64 3])) := a3 ▸ take_c v _ w h (by decide)
theorem k4 (v : Value) (w : World) (h : Sb w v [255, 255, 255, 255, 255, 255, 255, 255, 255, 2]) : Calls Try.prog 7 #[v] w (RetV w (.tuple #[.int .u64 0, .int .i64 0, .int .i64 3])) := a4 ▸ take_c v _ w h (by decide)
theorem k5 (v : Value) (w : World) (h : Sb w v [5]) : Calls Try.prog 9 #[v] w (RetV w (.tuple #[.int .i64 (-3), .int .i64 1, .int .i64 0])) := a5 ▸ takes_c v _ w h (by decide)
theorem k6 (w : World) : Calls Try.prog 18 #[.int .i64 (-3)] w (RetB w [5]) := a6 ▸ puts_c (-3) (by decide) (by decide) w
theorem k7 (v : Value) (w : World) (h : Sw w v [1, 300]) : Calls Try.prog 19 #[v] w (RetB w [1, 172, 2]) := a7 ▸ all_c v _ w h (by decide)
theorem k8 (w : World) : Calls Try.prog 13 #[.int .u64 300] w (RetB w [172, 2]) := vput_300 ▸ Put_c 300 w
theorem k9 (w : World) : Calls Try.prog 14 #[.int .u64 18446744073709551615] w (RetV w (.int .i64 10)) := by
  have h := size_c 18446744073709551615 w
  rw [show ((18446744073709551615 : UInt64).toNat) = 18446744073709551615 from rfl, vput_max] at h
  exact h
theorem k10 (w : World) : Calls Try.prog 14 #[.int .u64 0] w (RetV w (.int .i64 1)) := by
  have h := size_c 0 w
  rw [show ((0 : UInt64).toNat) = 0 from rfl, vput_0] at h
  exact h
theorem k11 (w : World) : Calls Try.prog 15 #[.int .i64 (-1)] w (RetV w (.int .u64 1)) := zig_c (-1) (by decide) (by decide) w
theorem k12 (w : World) : Calls Try.prog 17 #[.int .u64 2] w (RetV w (.int .i64 1)) := zag_c 2 w

set_option maxRecDepth 100000 in
set_option maxHeartbeats 1000000 in
theorem awake01_c (w : World) : Calls Try.prog 6 #[] w (RetV w (.bool true)) := by
  go_enter Try.func6, Try.ntmps6
  go_wp2_with fail
  refine (k1 _ _ (Sb.new w _ _ _ rfl (by decide) 3 rfl)).mono ?_
  rintro e w1 ⟨rfl, hb1⟩
  have c1 := gthen (galloc _ _) hb1
  clear hb1
  go_wp2_with fail
  refine (k2 _ _ (Sb.new w1 _ _ _ rfl (by decide) 1 rfl)).mono ?_
  rintro e w2 ⟨rfl, hb2⟩
  have c2 := gthen c1 (gthen (galloc _ _) hb2)
  clear hb2 c1
  go_wp2_with fail
  refine (k3 _ _ (Sb.new w2 _ _ _ rfl (by decide) 2 rfl)).mono ?_
  rintro e w3 ⟨rfl, hb3⟩
  have c3 := gthen c2 (gthen (galloc _ _) hb3)
  clear hb3 c2
  go_wp2_with fail
  refine (k4 _ _ (Sb.new w3 _ _ _ rfl (by decide) 10 rfl)).mono ?_
  rintro e w4 ⟨rfl, hb4⟩
  have c4 := gthen c3 (gthen (galloc _ _) hb4)
  clear hb4 c3
  go_wp2_with fail
  refine (k5 _ _ (Sb.new w4 _ _ _ rfl (by decide) 1 rfl)).mono ?_
  rintro e w5 ⟨rfl, hb5⟩
  have c5 := gthen c4 (gthen (galloc _ _) hb5)
  clear hb5 c4
  go_wp2_with fail
  refine (k8 _).mono ?_
  rintro e w6 ⟨u6, rfl, ho6, hb6⟩
  have c6 := gthen c5 hb6
  have s6 := ho6.sb
  clear hb6 c5 ho6
  go_wp2_with fail
  refine (same_c _ _ [172, 2] [172, 2] _ (s6.below (galloc _ _)) (Sb.new w6 _ _ _ rfl (by decide) 2 rfl)).mono ?_
  rintro e w7 ⟨rfl, hb7⟩
  have c7 := gthen c6 (gthen (galloc _ _) hb7)
  clear hb7 c6 s6
  rw [show decide ([172, 2] = ([172, 2] : List UInt8)) = true from by decide]
  go_wp2_with fail
  refine (k9 _).mono ?_
  rintro e w8 ⟨rfl, hb8⟩
  have c8 := gthen c7 hb8
  clear hb8 c7
  go_wp2_with fail
  refine (k10 _).mono ?_
  rintro e w9 ⟨rfl, hb9⟩
  have c9 := gthen c8 hb9
  clear hb9 c8
  go_wp2_with fail
  refine (k11 _).mono ?_
  rintro e w10 ⟨rfl, hb10⟩
  have c10 := gthen c9 hb10
  clear hb10 c9
  go_wp2_with fail
  refine (k12 _).mono ?_
  rintro e w11 ⟨rfl, hb11⟩
  have c11 := gthen c10 hb11
  clear hb11 c10
  go_wp2_with fail
  refine (k6 _).mono ?_
  rintro e w12 ⟨u12, rfl, ho12, hb12⟩
  have c12 := gthen c11 hb12
  have s12 := ho12.sb
  clear hb12 c11 ho12
  go_wp2_with fail
  refine (same_c _ _ [5] [5] _ (s12.below (galloc _ _)) (Sb.new w12 _ _ _ rfl (by decide) 1 rfl)).mono ?_
  rintro e w13 ⟨rfl, hb13⟩
  have c13 := gthen c12 (gthen (galloc _ _) hb13)
  clear hb13 c12 s12
  rw [show decide ([5] = ([5] : List UInt8)) = true from by decide]
  go_wp2_with fail
  refine (k7 _ _ (Sw.new w13 _ _ _ rfl (by decide) 2 rfl)).mono ?_
  rintro e w14 ⟨u14, rfl, ho14, hb14⟩
  have c14 := gthen c13 (gthen (galloc _ _) hb14)
  have s14 := ho14.sb
  clear hb14 c13 ho14
  go_wp2_with fail
  refine (same_c _ _ [1, 172, 2] [1, 172, 2] _ (s14.below (galloc _ _)) (Sb.new w14 _ _ _ rfl (by decide) 3 rfl)).mono ?_
  rintro e w15 ⟨rfl, hb15⟩
  have c15 := gthen c14 (gthen (galloc _ _) hb15)
  clear hb15 c14 s14
  rw [show decide ([1, 172, 2] = ([1, 172, 2] : List UInt8)) = true from by decide]
  go_wp2_with fail
  go_ret
  exact ⟨rfl, c15⟩
end Go.Proofs.Ytflhokgdkaophaa
