/- What the walk over values asks of this program's types (printed by gen_types.py). -/
import Derived.Test.YtonllhjmoenckaaProg
import Derived.Test.YtonllhjmoenckaaVsZ
namespace Go.Proofs.Ytonllhjmoenckaa
open Go Go.RowKit
theorem sz_1 : szT Try.prog 1 = some 1 := by kernel_rfl
theorem by_1 : byT Try.prog 1 = some 8 := by kernel_rfl
theorem ag_1 : aggT Try.prog 1 = false := by kernel_rfl
theorem kn_1 : knownT Try.prog 1 = true := by kernel_rfl
theorem it_1 : isIntT Try.prog 1 = false := by kernel_rfl
theorem pt_1 : isPtrT Try.prog 1 = false := by kernel_rfl
theorem zv_1 : zeroVs Try.prog 1 = some [V.sc (.nilFunc)] := by kernel_rfl
theorem zt_1 : zeroT Try.prog 1 = some (.nilFunc) := by kernel_rfl
theorem sz_2 : szT Try.prog 2 = some 1 := by kernel_rfl
theorem by_2 : byT Try.prog 2 = some 8 := by kernel_rfl
theorem ag_2 : aggT Try.prog 2 = false := by kernel_rfl
theorem kn_2 : knownT Try.prog 2 = true := by kernel_rfl
theorem it_2 : isIntT Try.prog 2 = true := by kernel_rfl
theorem pt_2 : isPtrT Try.prog 2 = false := by kernel_rfl
theorem zv_2 : zeroVs Try.prog 2 = some [V.sc (.int .i64 0)] := by kernel_rfl
theorem zt_2 : zeroT Try.prog 2 = some (.int .i64 0) := by kernel_rfl
theorem sz_3 : szT Try.prog 3 = some 1 := by kernel_rfl
theorem by_3 : byT Try.prog 3 = some 8 := by kernel_rfl
theorem ag_3 : aggT Try.prog 3 = false := by kernel_rfl
theorem kn_3 : knownT Try.prog 3 = true := by kernel_rfl
theorem it_3 : isIntT Try.prog 3 = true := by kernel_rfl
theorem pt_3 : isPtrT Try.prog 3 = false := by kernel_rfl
theorem zv_3 : zeroVs Try.prog 3 = some [V.sc (.int .i64 0)] := by kernel_rfl
theorem zt_3 : zeroT Try.prog 3 = some (.int .i64 0) := by kernel_rfl
theorem sz_4 : szT Try.prog 4 = some 1 := by kernel_rfl
theorem by_4 : byT Try.prog 4 = some 1 := by kernel_rfl
theorem ag_4 : aggT Try.prog 4 = false := by kernel_rfl
theorem kn_4 : knownT Try.prog 4 = true := by kernel_rfl
theorem it_4 : isIntT Try.prog 4 = false := by kernel_rfl
theorem pt_4 : isPtrT Try.prog 4 = false := by kernel_rfl
theorem zv_4 : zeroVs Try.prog 4 = some [V.sc (.bool false)] := by kernel_rfl
theorem zt_4 : zeroT Try.prog 4 = some (.bool false) := by kernel_rfl
theorem sz_5 : szT Try.prog 5 = some 1 := by kernel_rfl
theorem by_5 : byT Try.prog 5 = some 1 := by kernel_rfl
theorem ag_5 : aggT Try.prog 5 = false := by kernel_rfl
theorem kn_5 : knownT Try.prog 5 = true := by kernel_rfl
theorem it_5 : isIntT Try.prog 5 = true := by kernel_rfl
theorem pt_5 : isPtrT Try.prog 5 = false := by kernel_rfl
theorem zv_5 : zeroVs Try.prog 5 = some [V.sc (.int .u8 0)] := by kernel_rfl
theorem zt_5 : zeroT Try.prog 5 = some (.int .u8 0) := by kernel_rfl
theorem sz_6 : szT Try.prog 6 = some 1 := by kernel_rfl
theorem by_6 : byT Try.prog 6 = some 1 := by kernel_rfl
theorem ag_6 : aggT Try.prog 6 = false := by kernel_rfl
theorem kn_6 : knownT Try.prog 6 = true := by kernel_rfl
theorem it_6 : isIntT Try.prog 6 = true := by kernel_rfl
theorem pt_6 : isPtrT Try.prog 6 = false := by kernel_rfl
theorem zv_6 : zeroVs Try.prog 6 = some [V.sc (.int .u8 0)] := by kernel_rfl
theorem zt_6 : zeroT Try.prog 6 = some (.int .u8 0) := by kernel_rfl
theorem sz_7 : szT Try.prog 7 = some 4 := by kernel_rfl
theorem by_7 : byT Try.prog 7 = some 24 := by kernel_rfl
theorem ag_7 : aggT Try.prog 7 = true := by kernel_rfl
theorem kn_7 : knownT Try.prog 7 = true := by kernel_rfl
theorem it_7 : isIntT Try.prog 7 = false := by kernel_rfl
theorem pt_7 : isPtrT Try.prog 7 = false := by kernel_rfl
theorem pl_7 : placesT Try.prog 7 = some [(0, 1), (1, 1), (2, 1), (3, 1)] := by kernel_rfl
theorem sh_7 : shapeT Try.prog 7 = true := by kernel_rfl
theorem fo_7_0 : fieldOf Try.prog 7 0 = some (0, 2) := by kernel_rfl
theorem fo_7_1 : fieldOf Try.prog 7 1 = some (1, 3) := by kernel_rfl
theorem fo_7_2 : fieldOf Try.prog 7 2 = some (2, 4) := by kernel_rfl
theorem fo_7_3 : fieldOf Try.prog 7 3 = some (3, 6) := by kernel_rfl
theorem zv_7 : zeroVs Try.prog 7 = some [V.sc (.int .i64 0), V.sc (.int .i64 0), V.sc (.bool false), V.sc (.int .u8 0)] := by kernel_rfl
theorem zt_7 : zeroT Try.prog 7 = some (.agg #[.int .i64 0, .int .i64 0, .bool false, .int .u8 0]) := by kernel_rfl
theorem sz_8 : szT Try.prog 8 = some 4 := by kernel_rfl
theorem by_8 : byT Try.prog 8 = some 24 := by kernel_rfl
theorem ag_8 : aggT Try.prog 8 = true := by kernel_rfl
theorem kn_8 : knownT Try.prog 8 = true := by kernel_rfl
theorem it_8 : isIntT Try.prog 8 = false := by kernel_rfl
theorem pt_8 : isPtrT Try.prog 8 = false := by kernel_rfl
theorem pl_8 : placesT Try.prog 8 = some [(0, 1), (1, 1), (2, 1), (3, 1)] := by kernel_rfl
theorem sh_8 : shapeT Try.prog 8 = true := by kernel_rfl
theorem fo_8_0 : fieldOf Try.prog 8 0 = some (0, 2) := by kernel_rfl
theorem fo_8_1 : fieldOf Try.prog 8 1 = some (1, 3) := by kernel_rfl
theorem fo_8_2 : fieldOf Try.prog 8 2 = some (2, 4) := by kernel_rfl
theorem fo_8_3 : fieldOf Try.prog 8 3 = some (3, 6) := by kernel_rfl
theorem zv_8 : zeroVs Try.prog 8 = some [V.sc (.int .i64 0), V.sc (.int .i64 0), V.sc (.bool false), V.sc (.int .u8 0)] := by kernel_rfl
theorem zt_8 : zeroT Try.prog 8 = some (.agg #[.int .i64 0, .int .i64 0, .bool false, .int .u8 0]) := by kernel_rfl
theorem sz_9 : szT Try.prog 9 = some 1 := by kernel_rfl
theorem by_9 : byT Try.prog 9 = some 16 := by kernel_rfl
theorem ag_9 : aggT Try.prog 9 = false := by kernel_rfl
theorem kn_9 : knownT Try.prog 9 = true := by kernel_rfl
theorem it_9 : isIntT Try.prog 9 = false := by kernel_rfl
theorem pt_9 : isPtrT Try.prog 9 = false := by kernel_rfl
theorem zv_9 : zeroVs Try.prog 9 = some [V.sc (.string ⟨#[]⟩)] := by kernel_rfl
theorem zt_9 : zeroT Try.prog 9 = some (.string ⟨#[]⟩) := by kernel_rfl
theorem sz_10 : szT Try.prog 10 = some 1 := by kernel_rfl
theorem by_10 : byT Try.prog 10 = some 16 := by kernel_rfl
theorem ag_10 : aggT Try.prog 10 = false := by kernel_rfl
theorem kn_10 : knownT Try.prog 10 = true := by kernel_rfl
theorem it_10 : isIntT Try.prog 10 = false := by kernel_rfl
theorem pt_10 : isPtrT Try.prog 10 = false := by kernel_rfl
theorem zv_10 : zeroVs Try.prog 10 = some [V.sc (.string ⟨#[]⟩)] := by kernel_rfl
theorem zt_10 : zeroT Try.prog 10 = some (.string ⟨#[]⟩) := by kernel_rfl
theorem sz_11 : szT Try.prog 11 = some 1 := by kernel_rfl
theorem by_11 : byT Try.prog 11 = some 16 := by kernel_rfl
theorem ag_11 : aggT Try.prog 11 = false := by kernel_rfl
theorem kn_11 : knownT Try.prog 11 = true := by kernel_rfl
theorem it_11 : isIntT Try.prog 11 = false := by kernel_rfl
theorem pt_11 : isPtrT Try.prog 11 = false := by kernel_rfl
theorem zv_11 : zeroVs Try.prog 11 = some [V.sc (.string ⟨#[]⟩)] := by kernel_rfl
theorem zt_11 : zeroT Try.prog 11 = some (.string ⟨#[]⟩) := by kernel_rfl
theorem sz_12 : szT Try.prog 12 = some 1 := by kernel_rfl
theorem by_12 : byT Try.prog 12 = some 8 := by kernel_rfl
theorem ag_12 : aggT Try.prog 12 = false := by kernel_rfl
theorem kn_12 : knownT Try.prog 12 = true := by kernel_rfl
theorem it_12 : isIntT Try.prog 12 = true := by kernel_rfl
theorem pt_12 : isPtrT Try.prog 12 = false := by kernel_rfl
theorem zv_12 : zeroVs Try.prog 12 = some [V.sc (.int .u64 0)] := by kernel_rfl
theorem zt_12 : zeroT Try.prog 12 = some (.int .u64 0) := by kernel_rfl
theorem sz_13 : szT Try.prog 13 = some 2 := by kernel_rfl
theorem by_13 : byT Try.prog 13 = some 24 := by kernel_rfl
theorem ag_13 : aggT Try.prog 13 = true := by kernel_rfl
theorem kn_13 : knownT Try.prog 13 = true := by kernel_rfl
theorem it_13 : isIntT Try.prog 13 = false := by kernel_rfl
theorem pt_13 : isPtrT Try.prog 13 = false := by kernel_rfl
theorem pl_13 : placesT Try.prog 13 = some [(0, 1), (1, 1)] := by kernel_rfl
theorem sh_13 : shapeT Try.prog 13 = true := by kernel_rfl
theorem fo_13_0 : fieldOf Try.prog 13 0 = some (0, 9) := by kernel_rfl
theorem fo_13_1 : fieldOf Try.prog 13 1 = some (1, 12) := by kernel_rfl
theorem zv_13 : zeroVs Try.prog 13 = some [V.sc (.string ⟨#[]⟩), V.sc (.int .u64 0)] := by kernel_rfl
theorem zt_13 : zeroT Try.prog 13 = some (.agg #[.string ⟨#[]⟩, .int .u64 0]) := by kernel_rfl
theorem sz_14 : szT Try.prog 14 = some 2 := by kernel_rfl
theorem by_14 : byT Try.prog 14 = some 24 := by kernel_rfl
theorem ag_14 : aggT Try.prog 14 = true := by kernel_rfl
theorem kn_14 : knownT Try.prog 14 = true := by kernel_rfl
theorem it_14 : isIntT Try.prog 14 = false := by kernel_rfl
theorem pt_14 : isPtrT Try.prog 14 = false := by kernel_rfl
theorem pl_14 : placesT Try.prog 14 = some [(0, 1), (1, 1)] := by kernel_rfl
theorem sh_14 : shapeT Try.prog 14 = true := by kernel_rfl
theorem fo_14_0 : fieldOf Try.prog 14 0 = some (0, 9) := by kernel_rfl
theorem fo_14_1 : fieldOf Try.prog 14 1 = some (1, 12) := by kernel_rfl
theorem zv_14 : zeroVs Try.prog 14 = some [V.sc (.string ⟨#[]⟩), V.sc (.int .u64 0)] := by kernel_rfl
theorem zt_14 : zeroT Try.prog 14 = some (.agg #[.string ⟨#[]⟩, .int .u64 0]) := by kernel_rfl
theorem sz_15 : szT Try.prog 15 = some 1 := by kernel_rfl
theorem by_15 : byT Try.prog 15 = some 8 := by kernel_rfl
theorem ag_15 : aggT Try.prog 15 = false := by kernel_rfl
theorem kn_15 : knownT Try.prog 15 = true := by kernel_rfl
theorem it_15 : isIntT Try.prog 15 = false := by kernel_rfl
theorem pt_15 : isPtrT Try.prog 15 = true := by kernel_rfl
theorem zv_15 : zeroVs Try.prog 15 = some [V.sc (.pointer none)] := by kernel_rfl
theorem zt_15 : zeroT Try.prog 15 = some (.pointer none) := by kernel_rfl
theorem sz_16 : szT Try.prog 16 = some 1 := by kernel_rfl
theorem by_16 : byT Try.prog 16 = some 8 := by kernel_rfl
theorem ag_16 : aggT Try.prog 16 = false := by kernel_rfl
theorem kn_16 : knownT Try.prog 16 = true := by kernel_rfl
theorem it_16 : isIntT Try.prog 16 = false := by kernel_rfl
theorem pt_16 : isPtrT Try.prog 16 = true := by kernel_rfl
theorem zv_16 : zeroVs Try.prog 16 = some [V.sc (.pointer none)] := by kernel_rfl
theorem zt_16 : zeroT Try.prog 16 = some (.pointer none) := by kernel_rfl
theorem sz_17 : szT Try.prog 17 = some 1 := by kernel_rfl
theorem by_17 : byT Try.prog 17 = some 8 := by kernel_rfl
theorem ag_17 : aggT Try.prog 17 = false := by kernel_rfl
theorem kn_17 : knownT Try.prog 17 = true := by kernel_rfl
theorem it_17 : isIntT Try.prog 17 = false := by kernel_rfl
theorem pt_17 : isPtrT Try.prog 17 = true := by kernel_rfl
theorem zv_17 : zeroVs Try.prog 17 = some [V.sc (.pointer none)] := by kernel_rfl
theorem zt_17 : zeroT Try.prog 17 = some (.pointer none) := by kernel_rfl
theorem sz_18 : szT Try.prog 18 = some 1 := by kernel_rfl
theorem by_18 : byT Try.prog 18 = some 8 := by kernel_rfl
theorem ag_18 : aggT Try.prog 18 = true := by kernel_rfl
theorem kn_18 : knownT Try.prog 18 = true := by kernel_rfl
theorem it_18 : isIntT Try.prog 18 = false := by kernel_rfl
theorem pt_18 : isPtrT Try.prog 18 = false := by kernel_rfl
theorem pl_18 : placesT Try.prog 18 = some [(0, 1)] := by kernel_rfl
theorem sh_18 : shapeT Try.prog 18 = true := by kernel_rfl
theorem fo_18_0 : fieldOf Try.prog 18 0 = some (0, 17) := by kernel_rfl
theorem zv_18 : zeroVs Try.prog 18 = some [V.sc (.pointer none)] := by kernel_rfl
theorem zt_18 : zeroT Try.prog 18 = some (.agg #[.pointer none]) := by kernel_rfl
theorem sz_19 : szT Try.prog 19 = some 1 := by kernel_rfl
theorem by_19 : byT Try.prog 19 = some 8 := by kernel_rfl
theorem ag_19 : aggT Try.prog 19 = true := by kernel_rfl
theorem kn_19 : knownT Try.prog 19 = true := by kernel_rfl
theorem it_19 : isIntT Try.prog 19 = false := by kernel_rfl
theorem pt_19 : isPtrT Try.prog 19 = false := by kernel_rfl
theorem pl_19 : placesT Try.prog 19 = some [(0, 1)] := by kernel_rfl
theorem sh_19 : shapeT Try.prog 19 = true := by kernel_rfl
theorem fo_19_0 : fieldOf Try.prog 19 0 = some (0, 17) := by kernel_rfl
theorem zv_19 : zeroVs Try.prog 19 = some [V.sc (.pointer none)] := by kernel_rfl
theorem zt_19 : zeroT Try.prog 19 = some (.agg #[.pointer none]) := by kernel_rfl
theorem sz_20 : szT Try.prog 20 = some 1 := by kernel_rfl
theorem by_20 : byT Try.prog 20 = some 16 := by kernel_rfl
theorem ag_20 : aggT Try.prog 20 = false := by kernel_rfl
theorem kn_20 : knownT Try.prog 20 = true := by kernel_rfl
theorem it_20 : isIntT Try.prog 20 = false := by kernel_rfl
theorem pt_20 : isPtrT Try.prog 20 = false := by kernel_rfl
theorem zv_20 : zeroVs Try.prog 20 = some [V.sc (.nilIface)] := by kernel_rfl
theorem zt_20 : zeroT Try.prog 20 = some (.nilIface) := by kernel_rfl
theorem sz_21 : szT Try.prog 21 = some 1 := by kernel_rfl
theorem by_21 : byT Try.prog 21 = some 4 := by kernel_rfl
theorem ag_21 : aggT Try.prog 21 = false := by kernel_rfl
theorem kn_21 : knownT Try.prog 21 = true := by kernel_rfl
theorem it_21 : isIntT Try.prog 21 = true := by kernel_rfl
theorem pt_21 : isPtrT Try.prog 21 = false := by kernel_rfl
theorem zv_21 : zeroVs Try.prog 21 = some [V.sc (.int .i32 0)] := by kernel_rfl
theorem zt_21 : zeroT Try.prog 21 = some (.int .i32 0) := by kernel_rfl
theorem sz_22 : szT Try.prog 22 = some 1 := by kernel_rfl
theorem by_22 : byT Try.prog 22 = some 24 := by kernel_rfl
theorem ag_22 : aggT Try.prog 22 = false := by kernel_rfl
theorem kn_22 : knownT Try.prog 22 = true := by kernel_rfl
theorem it_22 : isIntT Try.prog 22 = false := by kernel_rfl
theorem pt_22 : isPtrT Try.prog 22 = false := by kernel_rfl
theorem zv_22 : zeroVs Try.prog 22 = some [V.sc (.slice none 0 0)] := by kernel_rfl
theorem zt_22 : zeroT Try.prog 22 = some (.slice none 0 0) := by kernel_rfl
theorem sz_23 : szT Try.prog 23 = some 1 := by kernel_rfl
theorem by_23 : byT Try.prog 23 = some 8 := by kernel_rfl
theorem ag_23 : aggT Try.prog 23 = false := by kernel_rfl
theorem kn_23 : knownT Try.prog 23 = true := by kernel_rfl
theorem it_23 : isIntT Try.prog 23 = false := by kernel_rfl
theorem pt_23 : isPtrT Try.prog 23 = false := by kernel_rfl
theorem zv_23 : zeroVs Try.prog 23 = some [V.sc (.nilFunc)] := by kernel_rfl
theorem zt_23 : zeroT Try.prog 23 = some (.nilFunc) := by kernel_rfl
theorem sz_24 : szT Try.prog 24 = some 1 := by kernel_rfl
theorem by_24 : byT Try.prog 24 = some 8 := by kernel_rfl
theorem ag_24 : aggT Try.prog 24 = false := by kernel_rfl
theorem kn_24 : knownT Try.prog 24 = true := by kernel_rfl
theorem it_24 : isIntT Try.prog 24 = false := by kernel_rfl
theorem pt_24 : isPtrT Try.prog 24 = false := by kernel_rfl
theorem zv_24 : zeroVs Try.prog 24 = some [V.sc (.nilFunc)] := by kernel_rfl
theorem zt_24 : zeroT Try.prog 24 = some (.nilFunc) := by kernel_rfl
theorem sz_25 : szT Try.prog 25 = some 1 := by kernel_rfl
theorem by_25 : byT Try.prog 25 = some 8 := by kernel_rfl
theorem ag_25 : aggT Try.prog 25 = false := by kernel_rfl
theorem kn_25 : knownT Try.prog 25 = true := by kernel_rfl
theorem it_25 : isIntT Try.prog 25 = false := by kernel_rfl
theorem pt_25 : isPtrT Try.prog 25 = true := by kernel_rfl
theorem zv_25 : zeroVs Try.prog 25 = some [V.sc (.pointer none)] := by kernel_rfl
theorem zt_25 : zeroT Try.prog 25 = some (.pointer none) := by kernel_rfl
theorem sz_26 : szT Try.prog 26 = some 1 := by kernel_rfl
theorem by_26 : byT Try.prog 26 = some 8 := by kernel_rfl
theorem ag_26 : aggT Try.prog 26 = false := by kernel_rfl
theorem kn_26 : knownT Try.prog 26 = true := by kernel_rfl
theorem it_26 : isIntT Try.prog 26 = false := by kernel_rfl
theorem pt_26 : isPtrT Try.prog 26 = false := by kernel_rfl
theorem zv_26 : zeroVs Try.prog 26 = some [V.sc (.nilFunc)] := by kernel_rfl
theorem zt_26 : zeroT Try.prog 26 = some (.nilFunc) := by kernel_rfl
theorem sz_27 : szT Try.prog 27 = some 1 := by kernel_rfl
theorem by_27 : byT Try.prog 27 = some 8 := by kernel_rfl
theorem ag_27 : aggT Try.prog 27 = false := by kernel_rfl
theorem kn_27 : knownT Try.prog 27 = true := by kernel_rfl
theorem it_27 : isIntT Try.prog 27 = false := by kernel_rfl
theorem pt_27 : isPtrT Try.prog 27 = true := by kernel_rfl
theorem zv_27 : zeroVs Try.prog 27 = some [V.sc (.pointer none)] := by kernel_rfl
theorem zt_27 : zeroT Try.prog 27 = some (.pointer none) := by kernel_rfl
theorem sz_28 : szT Try.prog 28 = some 1 := by kernel_rfl
theorem by_28 : byT Try.prog 28 = some 24 := by kernel_rfl
theorem ag_28 : aggT Try.prog 28 = false := by kernel_rfl
theorem kn_28 : knownT Try.prog 28 = true := by kernel_rfl
theorem it_28 : isIntT Try.prog 28 = false := by kernel_rfl
theorem pt_28 : isPtrT Try.prog 28 = false := by kernel_rfl
theorem zv_28 : zeroVs Try.prog 28 = some [V.sc (.slice none 0 0)] := by kernel_rfl
theorem zt_28 : zeroT Try.prog 28 = some (.slice none 0 0) := by kernel_rfl
theorem sz_29 : szT Try.prog 29 = some 1 := by kernel_rfl
theorem by_29 : byT Try.prog 29 = some 24 := by kernel_rfl
theorem ag_29 : aggT Try.prog 29 = false := by kernel_rfl
theorem kn_29 : knownT Try.prog 29 = true := by kernel_rfl
theorem it_29 : isIntT Try.prog 29 = false := by kernel_rfl
theorem pt_29 : isPtrT Try.prog 29 = false := by kernel_rfl
theorem zv_29 : zeroVs Try.prog 29 = some [V.sc (.slice none 0 0)] := by kernel_rfl
theorem zt_29 : zeroT Try.prog 29 = some (.slice none 0 0) := by kernel_rfl
theorem sz_30 : szT Try.prog 30 = some 2 := by kernel_rfl
theorem by_30 : byT Try.prog 30 = some 48 := by kernel_rfl
theorem ag_30 : aggT Try.prog 30 = true := by kernel_rfl
theorem kn_30 : knownT Try.prog 30 = true := by kernel_rfl
theorem it_30 : isIntT Try.prog 30 = false := by kernel_rfl
theorem pt_30 : isPtrT Try.prog 30 = false := by kernel_rfl
theorem pl_30 : placesT Try.prog 30 = some [(0, 1), (1, 1)] := by kernel_rfl
theorem sh_30 : shapeT Try.prog 30 = true := by kernel_rfl
theorem fo_30_0 : fieldOf Try.prog 30 0 = some (0, 28) := by kernel_rfl
theorem fo_30_1 : fieldOf Try.prog 30 1 = some (1, 29) := by kernel_rfl
theorem zv_30 : zeroVs Try.prog 30 = some [V.sc (.slice none 0 0), V.sc (.slice none 0 0)] := by kernel_rfl
theorem zt_30 : zeroT Try.prog 30 = some (.agg #[.slice none 0 0, .slice none 0 0]) := by kernel_rfl
theorem sz_31 : szT Try.prog 31 = some 2 := by kernel_rfl
theorem by_31 : byT Try.prog 31 = some 48 := by kernel_rfl
theorem ag_31 : aggT Try.prog 31 = true := by kernel_rfl
theorem kn_31 : knownT Try.prog 31 = true := by kernel_rfl
theorem it_31 : isIntT Try.prog 31 = false := by kernel_rfl
theorem pt_31 : isPtrT Try.prog 31 = false := by kernel_rfl
theorem pl_31 : placesT Try.prog 31 = some [(0, 1), (1, 1)] := by kernel_rfl
theorem sh_31 : shapeT Try.prog 31 = true := by kernel_rfl
theorem fo_31_0 : fieldOf Try.prog 31 0 = some (0, 28) := by kernel_rfl
theorem fo_31_1 : fieldOf Try.prog 31 1 = some (1, 29) := by kernel_rfl
theorem zv_31 : zeroVs Try.prog 31 = some [V.sc (.slice none 0 0), V.sc (.slice none 0 0)] := by kernel_rfl
theorem zt_31 : zeroT Try.prog 31 = some (.agg #[.slice none 0 0, .slice none 0 0]) := by kernel_rfl
theorem sz_32 : szT Try.prog 32 = some 1 := by kernel_rfl
theorem by_32 : byT Try.prog 32 = some 4 := by kernel_rfl
theorem ag_32 : aggT Try.prog 32 = false := by kernel_rfl
theorem kn_32 : knownT Try.prog 32 = true := by kernel_rfl
theorem it_32 : isIntT Try.prog 32 = true := by kernel_rfl
theorem pt_32 : isPtrT Try.prog 32 = false := by kernel_rfl
theorem zv_32 : zeroVs Try.prog 32 = some [V.sc (.int .u32 0)] := by kernel_rfl
theorem zt_32 : zeroT Try.prog 32 = some (.int .u32 0) := by kernel_rfl
theorem sz_33 : szT Try.prog 33 = some 1 := by kernel_rfl
theorem by_33 : byT Try.prog 33 = some 24 := by kernel_rfl
theorem ag_33 : aggT Try.prog 33 = false := by kernel_rfl
theorem kn_33 : knownT Try.prog 33 = true := by kernel_rfl
theorem it_33 : isIntT Try.prog 33 = false := by kernel_rfl
theorem pt_33 : isPtrT Try.prog 33 = false := by kernel_rfl
theorem zv_33 : zeroVs Try.prog 33 = some [V.sc (.slice none 0 0)] := by kernel_rfl
theorem zt_33 : zeroT Try.prog 33 = some (.slice none 0 0) := by kernel_rfl
theorem sz_34 : szT Try.prog 34 = some 2 := by kernel_rfl
theorem by_34 : byT Try.prog 34 = some 32 := by kernel_rfl
theorem ag_34 : aggT Try.prog 34 = true := by kernel_rfl
theorem kn_34 : knownT Try.prog 34 = true := by kernel_rfl
theorem it_34 : isIntT Try.prog 34 = false := by kernel_rfl
theorem pt_34 : isPtrT Try.prog 34 = false := by kernel_rfl
theorem pl_34 : placesT Try.prog 34 = some [(0, 1), (1, 1)] := by kernel_rfl
theorem sh_34 : shapeT Try.prog 34 = true := by kernel_rfl
theorem fo_34_0 : fieldOf Try.prog 34 0 = some (0, 3) := by kernel_rfl
theorem fo_34_1 : fieldOf Try.prog 34 1 = some (1, 33) := by kernel_rfl
theorem zv_34 : zeroVs Try.prog 34 = some [V.sc (.int .i64 0), V.sc (.slice none 0 0)] := by kernel_rfl
theorem zt_34 : zeroT Try.prog 34 = some (.agg #[.int .i64 0, .slice none 0 0]) := by kernel_rfl
theorem sz_35 : szT Try.prog 35 = some 2 := by kernel_rfl
theorem by_35 : byT Try.prog 35 = some 32 := by kernel_rfl
theorem ag_35 : aggT Try.prog 35 = true := by kernel_rfl
theorem kn_35 : knownT Try.prog 35 = true := by kernel_rfl
theorem it_35 : isIntT Try.prog 35 = false := by kernel_rfl
theorem pt_35 : isPtrT Try.prog 35 = false := by kernel_rfl
theorem pl_35 : placesT Try.prog 35 = some [(0, 1), (1, 1)] := by kernel_rfl
theorem sh_35 : shapeT Try.prog 35 = true := by kernel_rfl
theorem fo_35_0 : fieldOf Try.prog 35 0 = some (0, 3) := by kernel_rfl
theorem fo_35_1 : fieldOf Try.prog 35 1 = some (1, 33) := by kernel_rfl
theorem zv_35 : zeroVs Try.prog 35 = some [V.sc (.int .i64 0), V.sc (.slice none 0 0)] := by kernel_rfl
theorem zt_35 : zeroT Try.prog 35 = some (.agg #[.int .i64 0, .slice none 0 0]) := by kernel_rfl
theorem sz_36 : szT Try.prog 36 = some 6 := by kernel_rfl
theorem by_36 : byT Try.prog 36 = some 64 := by kernel_rfl
theorem ag_36 : aggT Try.prog 36 = true := by kernel_rfl
theorem kn_36 : knownT Try.prog 36 = true := by kernel_rfl
theorem it_36 : isIntT Try.prog 36 = false := by kernel_rfl
theorem pt_36 : isPtrT Try.prog 36 = false := by kernel_rfl
theorem pl_36 : placesT Try.prog 36 = some [(0, 1), (1, 1), (2, 1), (3, 1), (4, 2)] := by kernel_rfl
theorem sh_36 : shapeT Try.prog 36 = true := by kernel_rfl
theorem fo_36_0 : fieldOf Try.prog 36 0 = some (0, 3) := by kernel_rfl
theorem fo_36_1 : fieldOf Try.prog 36 1 = some (1, 3) := by kernel_rfl
theorem fo_36_2 : fieldOf Try.prog 36 2 = some (2, 3) := by kernel_rfl
theorem fo_36_3 : fieldOf Try.prog 36 3 = some (3, 32) := by kernel_rfl
theorem fo_36_4 : fieldOf Try.prog 36 4 = some (4, 35) := by kernel_rfl
theorem zv_36 : zeroVs Try.prog 36 = some [V.sc (.int .i64 0), V.sc (.int .i64 0), V.sc (.int .i64 0), V.sc (.int .u32 0), V.sc (.int .i64 0), V.sc (.slice none 0 0)] := by kernel_rfl
theorem zt_36 : zeroT Try.prog 36 = some (.agg #[.int .i64 0, .int .i64 0, .int .i64 0, .int .u32 0, .int .i64 0, .slice none 0 0]) := by kernel_rfl
theorem sz_37 : szT Try.prog 37 = some 6 := by kernel_rfl
theorem by_37 : byT Try.prog 37 = some 64 := by kernel_rfl
theorem ag_37 : aggT Try.prog 37 = true := by kernel_rfl
theorem kn_37 : knownT Try.prog 37 = true := by kernel_rfl
theorem it_37 : isIntT Try.prog 37 = false := by kernel_rfl
theorem pt_37 : isPtrT Try.prog 37 = false := by kernel_rfl
theorem pl_37 : placesT Try.prog 37 = some [(0, 1), (1, 1), (2, 1), (3, 1), (4, 2)] := by kernel_rfl
theorem sh_37 : shapeT Try.prog 37 = true := by kernel_rfl
theorem fo_37_0 : fieldOf Try.prog 37 0 = some (0, 3) := by kernel_rfl
theorem fo_37_1 : fieldOf Try.prog 37 1 = some (1, 3) := by kernel_rfl
theorem fo_37_2 : fieldOf Try.prog 37 2 = some (2, 3) := by kernel_rfl
theorem fo_37_3 : fieldOf Try.prog 37 3 = some (3, 32) := by kernel_rfl
theorem fo_37_4 : fieldOf Try.prog 37 4 = some (4, 35) := by kernel_rfl
theorem zv_37 : zeroVs Try.prog 37 = some [V.sc (.int .i64 0), V.sc (.int .i64 0), V.sc (.int .i64 0), V.sc (.int .u32 0), V.sc (.int .i64 0), V.sc (.slice none 0 0)] := by kernel_rfl
theorem zt_37 : zeroT Try.prog 37 = some (.agg #[.int .i64 0, .int .i64 0, .int .i64 0, .int .u32 0, .int .i64 0, .slice none 0 0]) := by kernel_rfl
theorem sz_38 : szT Try.prog 38 = some 1 := by kernel_rfl
theorem by_38 : byT Try.prog 38 = some 8 := by kernel_rfl
theorem ag_38 : aggT Try.prog 38 = false := by kernel_rfl
theorem kn_38 : knownT Try.prog 38 = true := by kernel_rfl
theorem it_38 : isIntT Try.prog 38 = false := by kernel_rfl
theorem pt_38 : isPtrT Try.prog 38 = false := by kernel_rfl
theorem zv_38 : zeroVs Try.prog 38 = some [V.sc (.nilFunc)] := by kernel_rfl
theorem zt_38 : zeroT Try.prog 38 = some (.nilFunc) := by kernel_rfl
theorem sz_39 : szT Try.prog 39 = some 1 := by kernel_rfl
theorem by_39 : byT Try.prog 39 = some 8 := by kernel_rfl
theorem ag_39 : aggT Try.prog 39 = false := by kernel_rfl
theorem kn_39 : knownT Try.prog 39 = true := by kernel_rfl
theorem it_39 : isIntT Try.prog 39 = false := by kernel_rfl
theorem pt_39 : isPtrT Try.prog 39 = false := by kernel_rfl
theorem zv_39 : zeroVs Try.prog 39 = some [V.sc (.nilFunc)] := by kernel_rfl
theorem zt_39 : zeroT Try.prog 39 = some (.nilFunc) := by kernel_rfl
theorem sz_40 : szT Try.prog 40 = some 2 := by kernel_rfl
theorem by_40 : byT Try.prog 40 = some 32 := by kernel_rfl
theorem ag_40 : aggT Try.prog 40 = true := by kernel_rfl
theorem kn_40 : knownT Try.prog 40 = true := by kernel_rfl
theorem it_40 : isIntT Try.prog 40 = false := by kernel_rfl
theorem pt_40 : isPtrT Try.prog 40 = false := by kernel_rfl
theorem pl_40 : placesT Try.prog 40 = some [(0, 1), (1, 1)] := by kernel_rfl
theorem sh_40 : shapeT Try.prog 40 = true := by kernel_rfl
theorem fo_40_0 : fieldOf Try.prog 40 0 = some (0, 3) := by kernel_rfl
theorem fo_40_1 : fieldOf Try.prog 40 1 = some (1, 33) := by kernel_rfl
theorem zv_40 : zeroVs Try.prog 40 = some [V.sc (.int .i64 0), V.sc (.slice none 0 0)] := by kernel_rfl
theorem zt_40 : zeroT Try.prog 40 = some (.agg #[.int .i64 0, .slice none 0 0]) := by kernel_rfl
theorem sz_42 : szT Try.prog 42 = some 1 := by kernel_rfl
theorem by_42 : byT Try.prog 42 = some 8 := by kernel_rfl
theorem ag_42 : aggT Try.prog 42 = false := by kernel_rfl
theorem kn_42 : knownT Try.prog 42 = true := by kernel_rfl
theorem it_42 : isIntT Try.prog 42 = false := by kernel_rfl
theorem pt_42 : isPtrT Try.prog 42 = false := by kernel_rfl
theorem zv_42 : zeroVs Try.prog 42 = some [V.sc (.nilFunc)] := by kernel_rfl
theorem zt_42 : zeroT Try.prog 42 = some (.nilFunc) := by kernel_rfl
theorem sz_44 : szT Try.prog 44 = some 1 := by kernel_rfl
theorem by_44 : byT Try.prog 44 = some 8 := by kernel_rfl
theorem ag_44 : aggT Try.prog 44 = false := by kernel_rfl
theorem kn_44 : knownT Try.prog 44 = true := by kernel_rfl
theorem it_44 : isIntT Try.prog 44 = false := by kernel_rfl
theorem pt_44 : isPtrT Try.prog 44 = false := by kernel_rfl
theorem zv_44 : zeroVs Try.prog 44 = some [V.sc (.nilFunc)] := by kernel_rfl
theorem zt_44 : zeroT Try.prog 44 = some (.nilFunc) := by kernel_rfl
theorem sz_45 : szT Try.prog 45 = some 1 := by kernel_rfl
theorem by_45 : byT Try.prog 45 = some 8 := by kernel_rfl
theorem ag_45 : aggT Try.prog 45 = false := by kernel_rfl
theorem kn_45 : knownT Try.prog 45 = true := by kernel_rfl
theorem it_45 : isIntT Try.prog 45 = false := by kernel_rfl
theorem pt_45 : isPtrT Try.prog 45 = false := by kernel_rfl
theorem zv_45 : zeroVs Try.prog 45 = some [V.sc (.nilFunc)] := by kernel_rfl
theorem zt_45 : zeroT Try.prog 45 = some (.nilFunc) := by kernel_rfl
theorem sz_46 : szT Try.prog 46 = some 1 := by kernel_rfl
theorem by_46 : byT Try.prog 46 = some 8 := by kernel_rfl
theorem ag_46 : aggT Try.prog 46 = false := by kernel_rfl
theorem kn_46 : knownT Try.prog 46 = true := by kernel_rfl
theorem it_46 : isIntT Try.prog 46 = false := by kernel_rfl
theorem pt_46 : isPtrT Try.prog 46 = false := by kernel_rfl
theorem zv_46 : zeroVs Try.prog 46 = some [V.sc (.nilFunc)] := by kernel_rfl
theorem zt_46 : zeroT Try.prog 46 = some (.nilFunc) := by kernel_rfl
theorem sz_47 : szT Try.prog 47 = some 1 := by kernel_rfl
theorem by_47 : byT Try.prog 47 = some 24 := by kernel_rfl
theorem ag_47 : aggT Try.prog 47 = false := by kernel_rfl
theorem kn_47 : knownT Try.prog 47 = true := by kernel_rfl
theorem it_47 : isIntT Try.prog 47 = false := by kernel_rfl
theorem pt_47 : isPtrT Try.prog 47 = false := by kernel_rfl
theorem zv_47 : zeroVs Try.prog 47 = some [V.sc (.slice none 0 0)] := by kernel_rfl
theorem zt_47 : zeroT Try.prog 47 = some (.slice none 0 0) := by kernel_rfl
theorem sz_48 : szT Try.prog 48 = some 1 := by kernel_rfl
theorem by_48 : byT Try.prog 48 = some 8 := by kernel_rfl
theorem ag_48 : aggT Try.prog 48 = false := by kernel_rfl
theorem kn_48 : knownT Try.prog 48 = true := by kernel_rfl
theorem it_48 : isIntT Try.prog 48 = false := by kernel_rfl
theorem pt_48 : isPtrT Try.prog 48 = false := by kernel_rfl
theorem zv_48 : zeroVs Try.prog 48 = some [V.sc (.nilFunc)] := by kernel_rfl
theorem zt_48 : zeroT Try.prog 48 = some (.nilFunc) := by kernel_rfl
theorem sz_49 : szT Try.prog 49 = some 1 := by kernel_rfl
theorem by_49 : byT Try.prog 49 = some 8 := by kernel_rfl
theorem ag_49 : aggT Try.prog 49 = false := by kernel_rfl
theorem kn_49 : knownT Try.prog 49 = true := by kernel_rfl
theorem it_49 : isIntT Try.prog 49 = false := by kernel_rfl
theorem pt_49 : isPtrT Try.prog 49 = false := by kernel_rfl
theorem zv_49 : zeroVs Try.prog 49 = some [V.sc (.nilFunc)] := by kernel_rfl
theorem zt_49 : zeroT Try.prog 49 = some (.nilFunc) := by kernel_rfl
theorem sz_50 : szT Try.prog 50 = some 1 := by kernel_rfl
theorem by_50 : byT Try.prog 50 = some 8 := by kernel_rfl
theorem ag_50 : aggT Try.prog 50 = false := by kernel_rfl
theorem kn_50 : knownT Try.prog 50 = true := by kernel_rfl
theorem it_50 : isIntT Try.prog 50 = false := by kernel_rfl
theorem pt_50 : isPtrT Try.prog 50 = false := by kernel_rfl
theorem zv_50 : zeroVs Try.prog 50 = some [V.sc (.nilFunc)] := by kernel_rfl
theorem zt_50 : zeroT Try.prog 50 = some (.nilFunc) := by kernel_rfl
theorem sz_51 : szT Try.prog 51 = some 1 := by kernel_rfl
theorem by_51 : byT Try.prog 51 = some 8 := by kernel_rfl
theorem ag_51 : aggT Try.prog 51 = false := by kernel_rfl
theorem kn_51 : knownT Try.prog 51 = true := by kernel_rfl
theorem it_51 : isIntT Try.prog 51 = false := by kernel_rfl
theorem pt_51 : isPtrT Try.prog 51 = false := by kernel_rfl
theorem zv_51 : zeroVs Try.prog 51 = some [V.sc (.nilFunc)] := by kernel_rfl
theorem zt_51 : zeroT Try.prog 51 = some (.nilFunc) := by kernel_rfl
theorem sz_52 : szT Try.prog 52 = some 1 := by kernel_rfl
theorem by_52 : byT Try.prog 52 = some 8 := by kernel_rfl
theorem ag_52 : aggT Try.prog 52 = false := by kernel_rfl
theorem kn_52 : knownT Try.prog 52 = true := by kernel_rfl
theorem it_52 : isIntT Try.prog 52 = false := by kernel_rfl
theorem pt_52 : isPtrT Try.prog 52 = false := by kernel_rfl
theorem zv_52 : zeroVs Try.prog 52 = some [V.sc (.nilFunc)] := by kernel_rfl
theorem zt_52 : zeroT Try.prog 52 = some (.nilFunc) := by kernel_rfl
theorem sz_53 : szT Try.prog 53 = some 1 := by kernel_rfl
theorem by_53 : byT Try.prog 53 = some 24 := by kernel_rfl
theorem ag_53 : aggT Try.prog 53 = false := by kernel_rfl
theorem kn_53 : knownT Try.prog 53 = true := by kernel_rfl
theorem it_53 : isIntT Try.prog 53 = false := by kernel_rfl
theorem pt_53 : isPtrT Try.prog 53 = false := by kernel_rfl
theorem zv_53 : zeroVs Try.prog 53 = some [V.sc (.slice none 0 0)] := by kernel_rfl
theorem zt_53 : zeroT Try.prog 53 = some (.slice none 0 0) := by kernel_rfl
theorem sz_54 : szT Try.prog 54 = some 1 := by kernel_rfl
theorem by_54 : byT Try.prog 54 = some 8 := by kernel_rfl
theorem ag_54 : aggT Try.prog 54 = false := by kernel_rfl
theorem kn_54 : knownT Try.prog 54 = true := by kernel_rfl
theorem it_54 : isIntT Try.prog 54 = false := by kernel_rfl
theorem pt_54 : isPtrT Try.prog 54 = false := by kernel_rfl
theorem zv_54 : zeroVs Try.prog 54 = some [V.sc (.nilFunc)] := by kernel_rfl
theorem zt_54 : zeroT Try.prog 54 = some (.nilFunc) := by kernel_rfl
theorem sz_55 : szT Try.prog 55 = some 1 := by kernel_rfl
theorem by_55 : byT Try.prog 55 = some 8 := by kernel_rfl
theorem ag_55 : aggT Try.prog 55 = false := by kernel_rfl
theorem kn_55 : knownT Try.prog 55 = true := by kernel_rfl
theorem it_55 : isIntT Try.prog 55 = false := by kernel_rfl
theorem pt_55 : isPtrT Try.prog 55 = true := by kernel_rfl
theorem zv_55 : zeroVs Try.prog 55 = some [V.sc (.pointer none)] := by kernel_rfl
theorem zt_55 : zeroT Try.prog 55 = some (.pointer none) := by kernel_rfl
theorem sz_56 : szT Try.prog 56 = some 1 := by kernel_rfl
theorem by_56 : byT Try.prog 56 = some 8 := by kernel_rfl
theorem ag_56 : aggT Try.prog 56 = false := by kernel_rfl
theorem kn_56 : knownT Try.prog 56 = true := by kernel_rfl
theorem it_56 : isIntT Try.prog 56 = false := by kernel_rfl
theorem pt_56 : isPtrT Try.prog 56 = false := by kernel_rfl
theorem zv_56 : zeroVs Try.prog 56 = some [V.sc (.nilFunc)] := by kernel_rfl
theorem zt_56 : zeroT Try.prog 56 = some (.nilFunc) := by kernel_rfl
theorem sz_57 : szT Try.prog 57 = some 1 := by kernel_rfl
theorem by_57 : byT Try.prog 57 = some 8 := by kernel_rfl
theorem ag_57 : aggT Try.prog 57 = false := by kernel_rfl
theorem kn_57 : knownT Try.prog 57 = true := by kernel_rfl
theorem it_57 : isIntT Try.prog 57 = false := by kernel_rfl
theorem pt_57 : isPtrT Try.prog 57 = true := by kernel_rfl
theorem zv_57 : zeroVs Try.prog 57 = some [V.sc (.pointer none)] := by kernel_rfl
theorem zt_57 : zeroT Try.prog 57 = some (.pointer none) := by kernel_rfl
theorem sz_58 : szT Try.prog 58 = some 1 := by kernel_rfl
theorem by_58 : byT Try.prog 58 = some 24 := by kernel_rfl
theorem ag_58 : aggT Try.prog 58 = false := by kernel_rfl
theorem kn_58 : knownT Try.prog 58 = true := by kernel_rfl
theorem it_58 : isIntT Try.prog 58 = false := by kernel_rfl
theorem pt_58 : isPtrT Try.prog 58 = false := by kernel_rfl
theorem zv_58 : zeroVs Try.prog 58 = some [V.sc (.slice none 0 0)] := by kernel_rfl
theorem zt_58 : zeroT Try.prog 58 = some (.slice none 0 0) := by kernel_rfl
theorem sz_59 : szT Try.prog 59 = some 1 := by kernel_rfl
theorem by_59 : byT Try.prog 59 = some 24 := by kernel_rfl
theorem ag_59 : aggT Try.prog 59 = false := by kernel_rfl
theorem kn_59 : knownT Try.prog 59 = true := by kernel_rfl
theorem it_59 : isIntT Try.prog 59 = false := by kernel_rfl
theorem pt_59 : isPtrT Try.prog 59 = false := by kernel_rfl
theorem zv_59 : zeroVs Try.prog 59 = some [V.sc (.slice none 0 0)] := by kernel_rfl
theorem zt_59 : zeroT Try.prog 59 = some (.slice none 0 0) := by kernel_rfl
theorem sz_60 : szT Try.prog 60 = some 3 := by kernel_rfl
theorem by_60 : byT Try.prog 60 = some 56 := by kernel_rfl
theorem ag_60 : aggT Try.prog 60 = true := by kernel_rfl
theorem kn_60 : knownT Try.prog 60 = true := by kernel_rfl
theorem it_60 : isIntT Try.prog 60 = false := by kernel_rfl
theorem pt_60 : isPtrT Try.prog 60 = false := by kernel_rfl
theorem pl_60 : placesT Try.prog 60 = some [(0, 1), (1, 1), (2, 1)] := by kernel_rfl
theorem sh_60 : shapeT Try.prog 60 = true := by kernel_rfl
theorem fo_60_0 : fieldOf Try.prog 60 0 = some (0, 58) := by kernel_rfl
theorem fo_60_1 : fieldOf Try.prog 60 1 = some (1, 59) := by kernel_rfl
theorem fo_60_2 : fieldOf Try.prog 60 2 = some (2, 3) := by kernel_rfl
theorem zv_60 : zeroVs Try.prog 60 = some [V.sc (.slice none 0 0), V.sc (.slice none 0 0), V.sc (.int .i64 0)] := by kernel_rfl
theorem zt_60 : zeroT Try.prog 60 = some (.agg #[.slice none 0 0, .slice none 0 0, .int .i64 0]) := by kernel_rfl
theorem sz_61 : szT Try.prog 61 = some 3 := by kernel_rfl
theorem by_61 : byT Try.prog 61 = some 56 := by kernel_rfl
theorem ag_61 : aggT Try.prog 61 = true := by kernel_rfl
theorem kn_61 : knownT Try.prog 61 = true := by kernel_rfl
theorem it_61 : isIntT Try.prog 61 = false := by kernel_rfl
theorem pt_61 : isPtrT Try.prog 61 = false := by kernel_rfl
theorem pl_61 : placesT Try.prog 61 = some [(0, 1), (1, 1), (2, 1)] := by kernel_rfl
theorem sh_61 : shapeT Try.prog 61 = true := by kernel_rfl
theorem fo_61_0 : fieldOf Try.prog 61 0 = some (0, 58) := by kernel_rfl
theorem fo_61_1 : fieldOf Try.prog 61 1 = some (1, 59) := by kernel_rfl
theorem fo_61_2 : fieldOf Try.prog 61 2 = some (2, 3) := by kernel_rfl
theorem zv_61 : zeroVs Try.prog 61 = some [V.sc (.slice none 0 0), V.sc (.slice none 0 0), V.sc (.int .i64 0)] := by kernel_rfl
theorem zt_61 : zeroT Try.prog 61 = some (.agg #[.slice none 0 0, .slice none 0 0, .int .i64 0]) := by kernel_rfl
theorem sz_62 : szT Try.prog 62 = some 3 := by kernel_rfl
theorem by_62 : byT Try.prog 62 = some 48 := by kernel_rfl
theorem ag_62 : aggT Try.prog 62 = true := by kernel_rfl
theorem kn_62 : knownT Try.prog 62 = true := by kernel_rfl
theorem it_62 : isIntT Try.prog 62 = false := by kernel_rfl
theorem pt_62 : isPtrT Try.prog 62 = false := by kernel_rfl
theorem pl_62 : placesT Try.prog 62 = some [(0, 1), (1, 1), (2, 1)] := by kernel_rfl
theorem sh_62 : shapeT Try.prog 62 = true := by kernel_rfl
theorem fo_62_0 : fieldOf Try.prog 62 0 = some (0, 3) := by kernel_rfl
theorem fo_62_1 : fieldOf Try.prog 62 1 = some (1, 9) := by kernel_rfl
theorem fo_62_2 : fieldOf Try.prog 62 2 = some (2, 33) := by kernel_rfl
theorem zv_62 : zeroVs Try.prog 62 = some [V.sc (.int .i64 0), V.sc (.string ⟨#[]⟩), V.sc (.slice none 0 0)] := by kernel_rfl
theorem zt_62 : zeroT Try.prog 62 = some (.agg #[.int .i64 0, .string ⟨#[]⟩, .slice none 0 0]) := by kernel_rfl
theorem sz_63 : szT Try.prog 63 = some 3 := by kernel_rfl
theorem by_63 : byT Try.prog 63 = some 48 := by kernel_rfl
theorem ag_63 : aggT Try.prog 63 = true := by kernel_rfl
theorem kn_63 : knownT Try.prog 63 = true := by kernel_rfl
theorem it_63 : isIntT Try.prog 63 = false := by kernel_rfl
theorem pt_63 : isPtrT Try.prog 63 = false := by kernel_rfl
theorem pl_63 : placesT Try.prog 63 = some [(0, 1), (1, 1), (2, 1)] := by kernel_rfl
theorem sh_63 : shapeT Try.prog 63 = true := by kernel_rfl
theorem fo_63_0 : fieldOf Try.prog 63 0 = some (0, 3) := by kernel_rfl
theorem fo_63_1 : fieldOf Try.prog 63 1 = some (1, 9) := by kernel_rfl
theorem fo_63_2 : fieldOf Try.prog 63 2 = some (2, 33) := by kernel_rfl
theorem zv_63 : zeroVs Try.prog 63 = some [V.sc (.int .i64 0), V.sc (.string ⟨#[]⟩), V.sc (.slice none 0 0)] := by kernel_rfl
theorem zt_63 : zeroT Try.prog 63 = some (.agg #[.int .i64 0, .string ⟨#[]⟩, .slice none 0 0]) := by kernel_rfl
theorem sz_64 : szT Try.prog 64 = some 1 := by kernel_rfl
theorem by_64 : byT Try.prog 64 = some 8 := by kernel_rfl
theorem ag_64 : aggT Try.prog 64 = false := by kernel_rfl
theorem kn_64 : knownT Try.prog 64 = true := by kernel_rfl
theorem it_64 : isIntT Try.prog 64 = true := by kernel_rfl
theorem pt_64 : isPtrT Try.prog 64 = false := by kernel_rfl
theorem zv_64 : zeroVs Try.prog 64 = some [V.sc (.int .i64 0)] := by kernel_rfl
theorem zt_64 : zeroT Try.prog 64 = some (.int .i64 0) := by kernel_rfl
theorem sz_66 : szT Try.prog 66 = some 1 := by kernel_rfl
theorem by_66 : byT Try.prog 66 = some 8 := by kernel_rfl
theorem ag_66 : aggT Try.prog 66 = false := by kernel_rfl
theorem kn_66 : knownT Try.prog 66 = true := by kernel_rfl
theorem it_66 : isIntT Try.prog 66 = false := by kernel_rfl
theorem pt_66 : isPtrT Try.prog 66 = false := by kernel_rfl
theorem zv_66 : zeroVs Try.prog 66 = some [V.sc (.nilFunc)] := by kernel_rfl
theorem zt_66 : zeroT Try.prog 66 = some (.nilFunc) := by kernel_rfl
theorem sz_67 : szT Try.prog 67 = some 1 := by kernel_rfl
theorem by_67 : byT Try.prog 67 = some 8 := by kernel_rfl
theorem ag_67 : aggT Try.prog 67 = false := by kernel_rfl
theorem kn_67 : knownT Try.prog 67 = true := by kernel_rfl
theorem it_67 : isIntT Try.prog 67 = false := by kernel_rfl
theorem pt_67 : isPtrT Try.prog 67 = false := by kernel_rfl
theorem zv_67 : zeroVs Try.prog 67 = some [V.sc (.nilFunc)] := by kernel_rfl
theorem zt_67 : zeroT Try.prog 67 = some (.nilFunc) := by kernel_rfl
theorem sz_69 : szT Try.prog 69 = some 1 := by kernel_rfl
theorem by_69 : byT Try.prog 69 = some 8 := by kernel_rfl
theorem ag_69 : aggT Try.prog 69 = false := by kernel_rfl
theorem kn_69 : knownT Try.prog 69 = true := by kernel_rfl
theorem it_69 : isIntT Try.prog 69 = false := by kernel_rfl
theorem pt_69 : isPtrT Try.prog 69 = false := by kernel_rfl
theorem zv_69 : zeroVs Try.prog 69 = some [V.sc (.nilFunc)] := by kernel_rfl
theorem zt_69 : zeroT Try.prog 69 = some (.nilFunc) := by kernel_rfl
theorem sz_70 : szT Try.prog 70 = some 1 := by kernel_rfl
theorem by_70 : byT Try.prog 70 = some 8 := by kernel_rfl
theorem ag_70 : aggT Try.prog 70 = false := by kernel_rfl
theorem kn_70 : knownT Try.prog 70 = true := by kernel_rfl
theorem it_70 : isIntT Try.prog 70 = false := by kernel_rfl
theorem pt_70 : isPtrT Try.prog 70 = false := by kernel_rfl
theorem zv_70 : zeroVs Try.prog 70 = some [V.sc (.nilFunc)] := by kernel_rfl
theorem zt_70 : zeroT Try.prog 70 = some (.nilFunc) := by kernel_rfl
theorem sz_71 : szT Try.prog 71 = some 1 := by kernel_rfl
theorem by_71 : byT Try.prog 71 = some 8 := by kernel_rfl
theorem ag_71 : aggT Try.prog 71 = false := by kernel_rfl
theorem kn_71 : knownT Try.prog 71 = true := by kernel_rfl
theorem it_71 : isIntT Try.prog 71 = false := by kernel_rfl
theorem pt_71 : isPtrT Try.prog 71 = false := by kernel_rfl
theorem zv_71 : zeroVs Try.prog 71 = some [V.sc (.nilFunc)] := by kernel_rfl
theorem zt_71 : zeroT Try.prog 71 = some (.nilFunc) := by kernel_rfl
theorem sz_72 : szT Try.prog 72 = some 1 := by kernel_rfl
theorem by_72 : byT Try.prog 72 = some 8 := by kernel_rfl
theorem ag_72 : aggT Try.prog 72 = false := by kernel_rfl
theorem kn_72 : knownT Try.prog 72 = true := by kernel_rfl
theorem it_72 : isIntT Try.prog 72 = false := by kernel_rfl
theorem pt_72 : isPtrT Try.prog 72 = false := by kernel_rfl
theorem zv_72 : zeroVs Try.prog 72 = some [V.sc (.nilFunc)] := by kernel_rfl
theorem zt_72 : zeroT Try.prog 72 = some (.nilFunc) := by kernel_rfl
theorem sz_73 : szT Try.prog 73 = some 1 := by kernel_rfl
theorem by_73 : byT Try.prog 73 = some 24 := by kernel_rfl
theorem ag_73 : aggT Try.prog 73 = false := by kernel_rfl
theorem kn_73 : knownT Try.prog 73 = true := by kernel_rfl
theorem it_73 : isIntT Try.prog 73 = false := by kernel_rfl
theorem pt_73 : isPtrT Try.prog 73 = false := by kernel_rfl
theorem zv_73 : zeroVs Try.prog 73 = some [V.sc (.slice none 0 0)] := by kernel_rfl
theorem zt_73 : zeroT Try.prog 73 = some (.slice none 0 0) := by kernel_rfl
theorem sz_74 : szT Try.prog 74 = some 1 := by kernel_rfl
theorem by_74 : byT Try.prog 74 = some 8 := by kernel_rfl
theorem ag_74 : aggT Try.prog 74 = false := by kernel_rfl
theorem kn_74 : knownT Try.prog 74 = true := by kernel_rfl
theorem it_74 : isIntT Try.prog 74 = false := by kernel_rfl
theorem pt_74 : isPtrT Try.prog 74 = false := by kernel_rfl
theorem zv_74 : zeroVs Try.prog 74 = some [V.sc (.nilFunc)] := by kernel_rfl
theorem zt_74 : zeroT Try.prog 74 = some (.nilFunc) := by kernel_rfl
theorem sz_75 : szT Try.prog 75 = some 1 := by kernel_rfl
theorem by_75 : byT Try.prog 75 = some 8 := by kernel_rfl
theorem ag_75 : aggT Try.prog 75 = false := by kernel_rfl
theorem kn_75 : knownT Try.prog 75 = true := by kernel_rfl
theorem it_75 : isIntT Try.prog 75 = false := by kernel_rfl
theorem pt_75 : isPtrT Try.prog 75 = true := by kernel_rfl
theorem zv_75 : zeroVs Try.prog 75 = some [V.sc (.pointer none)] := by kernel_rfl
theorem zt_75 : zeroT Try.prog 75 = some (.pointer none) := by kernel_rfl
theorem sz_76 : szT Try.prog 76 = some 1 := by kernel_rfl
theorem by_76 : byT Try.prog 76 = some 8 := by kernel_rfl
theorem ag_76 : aggT Try.prog 76 = false := by kernel_rfl
theorem kn_76 : knownT Try.prog 76 = true := by kernel_rfl
theorem it_76 : isIntT Try.prog 76 = false := by kernel_rfl
theorem pt_76 : isPtrT Try.prog 76 = false := by kernel_rfl
theorem zv_76 : zeroVs Try.prog 76 = some [V.sc (.nilFunc)] := by kernel_rfl
theorem zt_76 : zeroT Try.prog 76 = some (.nilFunc) := by kernel_rfl
theorem sz_77 : szT Try.prog 77 = some 3 := by kernel_rfl
theorem by_77 : byT Try.prog 77 = some 24 := by kernel_rfl
theorem ag_77 : aggT Try.prog 77 = true := by kernel_rfl
theorem kn_77 : knownT Try.prog 77 = true := by kernel_rfl
theorem it_77 : isIntT Try.prog 77 = false := by kernel_rfl
theorem pt_77 : isPtrT Try.prog 77 = false := by kernel_rfl
theorem el_77 : elemT Try.prog 77 = some 1 := by kernel_rfl
theorem pl_77 : placesT Try.prog 77 = none := by kernel_rfl
theorem sh_77 : shapeT Try.prog 77 = true := by kernel_rfl
theorem zv_77 : zeroVs Try.prog 77 = some [V.sc (.int .i64 0), V.sc (.int .i64 0), V.sc (.int .i64 0)] := by kernel_rfl
theorem zt_77 : zeroT Try.prog 77 = some (.agg #[.int .i64 0, .int .i64 0, .int .i64 0]) := by kernel_rfl
theorem sz_78 : szT Try.prog 78 = some 3 := by kernel_rfl
theorem by_78 : byT Try.prog 78 = some 24 := by kernel_rfl
theorem ag_78 : aggT Try.prog 78 = true := by kernel_rfl
theorem kn_78 : knownT Try.prog 78 = true := by kernel_rfl
theorem it_78 : isIntT Try.prog 78 = false := by kernel_rfl
theorem pt_78 : isPtrT Try.prog 78 = false := by kernel_rfl
theorem el_78 : elemT Try.prog 78 = some 1 := by kernel_rfl
theorem pl_78 : placesT Try.prog 78 = none := by kernel_rfl
theorem sh_78 : shapeT Try.prog 78 = true := by kernel_rfl
theorem zv_78 : zeroVs Try.prog 78 = some [V.sc (.int .i64 0), V.sc (.int .i64 0), V.sc (.int .i64 0)] := by kernel_rfl
theorem zt_78 : zeroT Try.prog 78 = some (.agg #[.int .i64 0, .int .i64 0, .int .i64 0]) := by kernel_rfl
theorem sz_79 : szT Try.prog 79 = some 1 := by kernel_rfl
theorem by_79 : byT Try.prog 79 = some 24 := by kernel_rfl
theorem ag_79 : aggT Try.prog 79 = false := by kernel_rfl
theorem kn_79 : knownT Try.prog 79 = true := by kernel_rfl
theorem it_79 : isIntT Try.prog 79 = false := by kernel_rfl
theorem pt_79 : isPtrT Try.prog 79 = false := by kernel_rfl
theorem zv_79 : zeroVs Try.prog 79 = some [V.sc (.slice none 0 0)] := by kernel_rfl
theorem zt_79 : zeroT Try.prog 79 = some (.slice none 0 0) := by kernel_rfl
theorem sz_80 : szT Try.prog 80 = some 6 := by kernel_rfl
theorem by_80 : byT Try.prog 80 = some 64 := by kernel_rfl
theorem ag_80 : aggT Try.prog 80 = true := by kernel_rfl
theorem kn_80 : knownT Try.prog 80 = true := by kernel_rfl
theorem it_80 : isIntT Try.prog 80 = false := by kernel_rfl
theorem pt_80 : isPtrT Try.prog 80 = false := by kernel_rfl
theorem pl_80 : placesT Try.prog 80 = some [(0, 1), (1, 1), (2, 3), (5, 1)] := by kernel_rfl
theorem sh_80 : shapeT Try.prog 80 = true := by kernel_rfl
theorem fo_80_0 : fieldOf Try.prog 80 0 = some (0, 3) := by kernel_rfl
theorem fo_80_1 : fieldOf Try.prog 80 1 = some (1, 2) := by kernel_rfl
theorem fo_80_2 : fieldOf Try.prog 80 2 = some (2, 78) := by kernel_rfl
theorem fo_80_3 : fieldOf Try.prog 80 3 = some (5, 79) := by kernel_rfl
theorem zv_80 : zeroVs Try.prog 80 = some [V.sc (.int .i64 0), V.sc (.int .i64 0), V.sc (.int .i64 0), V.sc (.int .i64 0), V.sc (.int .i64 0), V.sc (.slice none 0 0)] := by kernel_rfl
theorem zt_80 : zeroT Try.prog 80 = some (.agg #[.int .i64 0, .int .i64 0, .int .i64 0, .int .i64 0, .int .i64 0, .slice none 0 0]) := by kernel_rfl
theorem sz_81 : szT Try.prog 81 = some 6 := by kernel_rfl
theorem by_81 : byT Try.prog 81 = some 64 := by kernel_rfl
theorem ag_81 : aggT Try.prog 81 = true := by kernel_rfl
theorem kn_81 : knownT Try.prog 81 = true := by kernel_rfl
theorem it_81 : isIntT Try.prog 81 = false := by kernel_rfl
theorem pt_81 : isPtrT Try.prog 81 = false := by kernel_rfl
theorem pl_81 : placesT Try.prog 81 = some [(0, 1), (1, 1), (2, 3), (5, 1)] := by kernel_rfl
theorem sh_81 : shapeT Try.prog 81 = true := by kernel_rfl
theorem fo_81_0 : fieldOf Try.prog 81 0 = some (0, 3) := by kernel_rfl
theorem fo_81_1 : fieldOf Try.prog 81 1 = some (1, 2) := by kernel_rfl
theorem fo_81_2 : fieldOf Try.prog 81 2 = some (2, 78) := by kernel_rfl
theorem fo_81_3 : fieldOf Try.prog 81 3 = some (5, 79) := by kernel_rfl
theorem zv_81 : zeroVs Try.prog 81 = some [V.sc (.int .i64 0), V.sc (.int .i64 0), V.sc (.int .i64 0), V.sc (.int .i64 0), V.sc (.int .i64 0), V.sc (.slice none 0 0)] := by kernel_rfl
theorem zt_81 : zeroT Try.prog 81 = some (.agg #[.int .i64 0, .int .i64 0, .int .i64 0, .int .i64 0, .int .i64 0, .slice none 0 0]) := by kernel_rfl
theorem sz_82 : szT Try.prog 82 = some 8 := by kernel_rfl
theorem by_82 : byT Try.prog 82 = some 96 := by kernel_rfl
theorem ag_82 : aggT Try.prog 82 = true := by kernel_rfl
theorem kn_82 : knownT Try.prog 82 = true := by kernel_rfl
theorem it_82 : isIntT Try.prog 82 = false := by kernel_rfl
theorem pt_82 : isPtrT Try.prog 82 = false := by kernel_rfl
theorem pl_82 : placesT Try.prog 82 = some [(0, 1), (1, 6), (7, 1)] := by kernel_rfl
theorem sh_82 : shapeT Try.prog 82 = true := by kernel_rfl
theorem fo_82_0 : fieldOf Try.prog 82 0 = some (0, 3) := by kernel_rfl
theorem fo_82_1 : fieldOf Try.prog 82 1 = some (1, 81) := by kernel_rfl
theorem fo_82_2 : fieldOf Try.prog 82 2 = some (7, 33) := by kernel_rfl
theorem zv_82 : zeroVs Try.prog 82 = some [V.sc (.int .i64 0), V.sc (.int .i64 0), V.sc (.int .i64 0), V.sc (.int .i64 0), V.sc (.int .i64 0), V.sc (.int .i64 0), V.sc (.slice none 0 0), V.sc (.slice none 0 0)] := by kernel_rfl
theorem zt_82 : zeroT Try.prog 82 = some (.agg #[.int .i64 0, .int .i64 0, .int .i64 0, .int .i64 0, .int .i64 0, .int .i64 0, .slice none 0 0, .slice none 0 0]) := by kernel_rfl
theorem sz_83 : szT Try.prog 83 = some 8 := by kernel_rfl
theorem by_83 : byT Try.prog 83 = some 96 := by kernel_rfl
theorem ag_83 : aggT Try.prog 83 = true := by kernel_rfl
theorem kn_83 : knownT Try.prog 83 = true := by kernel_rfl
theorem it_83 : isIntT Try.prog 83 = false := by kernel_rfl
theorem pt_83 : isPtrT Try.prog 83 = false := by kernel_rfl
theorem pl_83 : placesT Try.prog 83 = some [(0, 1), (1, 6), (7, 1)] := by kernel_rfl
theorem sh_83 : shapeT Try.prog 83 = true := by kernel_rfl
theorem fo_83_0 : fieldOf Try.prog 83 0 = some (0, 3) := by kernel_rfl
theorem fo_83_1 : fieldOf Try.prog 83 1 = some (1, 81) := by kernel_rfl
theorem fo_83_2 : fieldOf Try.prog 83 2 = some (7, 33) := by kernel_rfl
theorem zv_83 : zeroVs Try.prog 83 = some [V.sc (.int .i64 0), V.sc (.int .i64 0), V.sc (.int .i64 0), V.sc (.int .i64 0), V.sc (.int .i64 0), V.sc (.int .i64 0), V.sc (.slice none 0 0), V.sc (.slice none 0 0)] := by kernel_rfl
theorem zt_83 : zeroT Try.prog 83 = some (.agg #[.int .i64 0, .int .i64 0, .int .i64 0, .int .i64 0, .int .i64 0, .int .i64 0, .slice none 0 0, .slice none 0 0]) := by kernel_rfl
theorem sz_84 : szT Try.prog 84 = some 1 := by kernel_rfl
theorem by_84 : byT Try.prog 84 = some 8 := by kernel_rfl
theorem ag_84 : aggT Try.prog 84 = false := by kernel_rfl
theorem kn_84 : knownT Try.prog 84 = true := by kernel_rfl
theorem it_84 : isIntT Try.prog 84 = false := by kernel_rfl
theorem pt_84 : isPtrT Try.prog 84 = false := by kernel_rfl
theorem zv_84 : zeroVs Try.prog 84 = some [V.sc (.nilFunc)] := by kernel_rfl
theorem zt_84 : zeroT Try.prog 84 = some (.nilFunc) := by kernel_rfl
theorem sz_85 : szT Try.prog 85 = some 1 := by kernel_rfl
theorem by_85 : byT Try.prog 85 = some 8 := by kernel_rfl
theorem ag_85 : aggT Try.prog 85 = false := by kernel_rfl
theorem kn_85 : knownT Try.prog 85 = true := by kernel_rfl
theorem it_85 : isIntT Try.prog 85 = false := by kernel_rfl
theorem pt_85 : isPtrT Try.prog 85 = false := by kernel_rfl
theorem zv_85 : zeroVs Try.prog 85 = some [V.sc (.nilFunc)] := by kernel_rfl
theorem zt_85 : zeroT Try.prog 85 = some (.nilFunc) := by kernel_rfl
theorem sz_87 : szT Try.prog 87 = some 1 := by kernel_rfl
theorem by_87 : byT Try.prog 87 = some 8 := by kernel_rfl
theorem ag_87 : aggT Try.prog 87 = false := by kernel_rfl
theorem kn_87 : knownT Try.prog 87 = true := by kernel_rfl
theorem it_87 : isIntT Try.prog 87 = false := by kernel_rfl
theorem pt_87 : isPtrT Try.prog 87 = false := by kernel_rfl
theorem zv_87 : zeroVs Try.prog 87 = some [V.sc (.nilFunc)] := by kernel_rfl
theorem zt_87 : zeroT Try.prog 87 = some (.nilFunc) := by kernel_rfl
theorem sz_88 : szT Try.prog 88 = some 1 := by kernel_rfl
theorem by_88 : byT Try.prog 88 = some 8 := by kernel_rfl
theorem ag_88 : aggT Try.prog 88 = false := by kernel_rfl
theorem kn_88 : knownT Try.prog 88 = true := by kernel_rfl
theorem it_88 : isIntT Try.prog 88 = false := by kernel_rfl
theorem pt_88 : isPtrT Try.prog 88 = false := by kernel_rfl
theorem zv_88 : zeroVs Try.prog 88 = some [V.sc (.nilFunc)] := by kernel_rfl
theorem zt_88 : zeroT Try.prog 88 = some (.nilFunc) := by kernel_rfl
theorem sz_89 : szT Try.prog 89 = some 1 := by kernel_rfl
theorem by_89 : byT Try.prog 89 = some 8 := by kernel_rfl
theorem ag_89 : aggT Try.prog 89 = false := by kernel_rfl
theorem kn_89 : knownT Try.prog 89 = true := by kernel_rfl
theorem it_89 : isIntT Try.prog 89 = false := by kernel_rfl
theorem pt_89 : isPtrT Try.prog 89 = false := by kernel_rfl
theorem zv_89 : zeroVs Try.prog 89 = some [V.sc (.nilFunc)] := by kernel_rfl
theorem zt_89 : zeroT Try.prog 89 = some (.nilFunc) := by kernel_rfl
theorem sz_90 : szT Try.prog 90 = some 1 := by kernel_rfl
theorem by_90 : byT Try.prog 90 = some 8 := by kernel_rfl
theorem ag_90 : aggT Try.prog 90 = false := by kernel_rfl
theorem kn_90 : knownT Try.prog 90 = true := by kernel_rfl
theorem it_90 : isIntT Try.prog 90 = false := by kernel_rfl
theorem pt_90 : isPtrT Try.prog 90 = false := by kernel_rfl
theorem zv_90 : zeroVs Try.prog 90 = some [V.sc (.nilFunc)] := by kernel_rfl
theorem zt_90 : zeroT Try.prog 90 = some (.nilFunc) := by kernel_rfl
theorem sz_91 : szT Try.prog 91 = some 1 := by kernel_rfl
theorem by_91 : byT Try.prog 91 = some 8 := by kernel_rfl
theorem ag_91 : aggT Try.prog 91 = false := by kernel_rfl
theorem kn_91 : knownT Try.prog 91 = true := by kernel_rfl
theorem it_91 : isIntT Try.prog 91 = false := by kernel_rfl
theorem pt_91 : isPtrT Try.prog 91 = true := by kernel_rfl
theorem zv_91 : zeroVs Try.prog 91 = some [V.sc (.pointer none)] := by kernel_rfl
theorem zt_91 : zeroT Try.prog 91 = some (.pointer none) := by kernel_rfl
theorem sz_92 : szT Try.prog 92 = some 6 := by kernel_rfl
theorem by_92 : byT Try.prog 92 = some 80 := by kernel_rfl
theorem ag_92 : aggT Try.prog 92 = true := by kernel_rfl
theorem kn_92 : knownT Try.prog 92 = true := by kernel_rfl
theorem it_92 : isIntT Try.prog 92 = false := by kernel_rfl
theorem pt_92 : isPtrT Try.prog 92 = false := by kernel_rfl
theorem pl_92 : placesT Try.prog 92 = some [(0, 3), (3, 3)] := by kernel_rfl
theorem sh_92 : shapeT Try.prog 92 = true := by kernel_rfl
theorem fo_92_0 : fieldOf Try.prog 92 0 = some (0, 78) := by kernel_rfl
theorem fo_92_1 : fieldOf Try.prog 92 1 = some (3, 61) := by kernel_rfl
theorem zv_92 : zeroVs Try.prog 92 = some [V.sc (.int .i64 0), V.sc (.int .i64 0), V.sc (.int .i64 0), V.sc (.slice none 0 0), V.sc (.slice none 0 0), V.sc (.int .i64 0)] := by kernel_rfl
theorem zt_92 : zeroT Try.prog 92 = some (.agg #[.int .i64 0, .int .i64 0, .int .i64 0, .slice none 0 0, .slice none 0 0, .int .i64 0]) := by kernel_rfl
theorem sz_93 : szT Try.prog 93 = some 6 := by kernel_rfl
theorem by_93 : byT Try.prog 93 = some 80 := by kernel_rfl
theorem ag_93 : aggT Try.prog 93 = true := by kernel_rfl
theorem kn_93 : knownT Try.prog 93 = true := by kernel_rfl
theorem it_93 : isIntT Try.prog 93 = false := by kernel_rfl
theorem pt_93 : isPtrT Try.prog 93 = false := by kernel_rfl
theorem pl_93 : placesT Try.prog 93 = some [(0, 3), (3, 3)] := by kernel_rfl
theorem sh_93 : shapeT Try.prog 93 = true := by kernel_rfl
theorem fo_93_0 : fieldOf Try.prog 93 0 = some (0, 78) := by kernel_rfl
theorem fo_93_1 : fieldOf Try.prog 93 1 = some (3, 61) := by kernel_rfl
theorem zv_93 : zeroVs Try.prog 93 = some [V.sc (.int .i64 0), V.sc (.int .i64 0), V.sc (.int .i64 0), V.sc (.slice none 0 0), V.sc (.slice none 0 0), V.sc (.int .i64 0)] := by kernel_rfl
theorem zt_93 : zeroT Try.prog 93 = some (.agg #[.int .i64 0, .int .i64 0, .int .i64 0, .slice none 0 0, .slice none 0 0, .int .i64 0]) := by kernel_rfl
theorem sz_94 : szT Try.prog 94 = some 1 := by kernel_rfl
theorem by_94 : byT Try.prog 94 = some 24 := by kernel_rfl
theorem ag_94 : aggT Try.prog 94 = false := by kernel_rfl
theorem kn_94 : knownT Try.prog 94 = true := by kernel_rfl
theorem it_94 : isIntT Try.prog 94 = false := by kernel_rfl
theorem pt_94 : isPtrT Try.prog 94 = false := by kernel_rfl
theorem zv_94 : zeroVs Try.prog 94 = some [V.sc (.slice none 0 0)] := by kernel_rfl
theorem zt_94 : zeroT Try.prog 94 = some (.slice none 0 0) := by kernel_rfl
theorem sz_95 : szT Try.prog 95 = some 1 := by kernel_rfl
theorem by_95 : byT Try.prog 95 = some 24 := by kernel_rfl
theorem ag_95 : aggT Try.prog 95 = false := by kernel_rfl
theorem kn_95 : knownT Try.prog 95 = true := by kernel_rfl
theorem it_95 : isIntT Try.prog 95 = false := by kernel_rfl
theorem pt_95 : isPtrT Try.prog 95 = false := by kernel_rfl
theorem zv_95 : zeroVs Try.prog 95 = some [V.sc (.slice none 0 0)] := by kernel_rfl
theorem zt_95 : zeroT Try.prog 95 = some (.slice none 0 0) := by kernel_rfl
theorem sz_96 : szT Try.prog 96 = some 1 := by kernel_rfl
theorem by_96 : byT Try.prog 96 = some 8 := by kernel_rfl
theorem ag_96 : aggT Try.prog 96 = false := by kernel_rfl
theorem kn_96 : knownT Try.prog 96 = true := by kernel_rfl
theorem it_96 : isIntT Try.prog 96 = false := by kernel_rfl
theorem pt_96 : isPtrT Try.prog 96 = false := by kernel_rfl
theorem zv_96 : zeroVs Try.prog 96 = some [V.sc (.nilFunc)] := by kernel_rfl
theorem zt_96 : zeroT Try.prog 96 = some (.nilFunc) := by kernel_rfl
theorem sz_97 : szT Try.prog 97 = some 1 := by kernel_rfl
theorem by_97 : byT Try.prog 97 = some 8 := by kernel_rfl
theorem ag_97 : aggT Try.prog 97 = false := by kernel_rfl
theorem kn_97 : knownT Try.prog 97 = true := by kernel_rfl
theorem it_97 : isIntT Try.prog 97 = false := by kernel_rfl
theorem pt_97 : isPtrT Try.prog 97 = false := by kernel_rfl
theorem zv_97 : zeroVs Try.prog 97 = some [V.sc (.nilFunc)] := by kernel_rfl
theorem zt_97 : zeroT Try.prog 97 = some (.nilFunc) := by kernel_rfl
theorem sz_98 : szT Try.prog 98 = some 1 := by kernel_rfl
theorem by_98 : byT Try.prog 98 = some 8 := by kernel_rfl
theorem ag_98 : aggT Try.prog 98 = false := by kernel_rfl
theorem kn_98 : knownT Try.prog 98 = true := by kernel_rfl
theorem it_98 : isIntT Try.prog 98 = false := by kernel_rfl
theorem pt_98 : isPtrT Try.prog 98 = false := by kernel_rfl
theorem zv_98 : zeroVs Try.prog 98 = some [V.sc (.nilFunc)] := by kernel_rfl
theorem zt_98 : zeroT Try.prog 98 = some (.nilFunc) := by kernel_rfl
theorem sz_99 : szT Try.prog 99 = some 1 := by kernel_rfl
theorem by_99 : byT Try.prog 99 = some 8 := by kernel_rfl
theorem ag_99 : aggT Try.prog 99 = false := by kernel_rfl
theorem kn_99 : knownT Try.prog 99 = true := by kernel_rfl
theorem it_99 : isIntT Try.prog 99 = false := by kernel_rfl
theorem pt_99 : isPtrT Try.prog 99 = false := by kernel_rfl
theorem zv_99 : zeroVs Try.prog 99 = some [V.sc (.nilFunc)] := by kernel_rfl
theorem zt_99 : zeroT Try.prog 99 = some (.nilFunc) := by kernel_rfl
theorem sz_100 : szT Try.prog 100 = some 1 := by kernel_rfl
theorem by_100 : byT Try.prog 100 = some 24 := by kernel_rfl
theorem ag_100 : aggT Try.prog 100 = false := by kernel_rfl
theorem kn_100 : knownT Try.prog 100 = true := by kernel_rfl
theorem it_100 : isIntT Try.prog 100 = false := by kernel_rfl
theorem pt_100 : isPtrT Try.prog 100 = false := by kernel_rfl
theorem zv_100 : zeroVs Try.prog 100 = some [V.sc (.slice none 0 0)] := by kernel_rfl
theorem zt_100 : zeroT Try.prog 100 = some (.slice none 0 0) := by kernel_rfl
theorem sz_101 : szT Try.prog 101 = some 1 := by kernel_rfl
theorem by_101 : byT Try.prog 101 = some 8 := by kernel_rfl
theorem ag_101 : aggT Try.prog 101 = false := by kernel_rfl
theorem kn_101 : knownT Try.prog 101 = true := by kernel_rfl
theorem it_101 : isIntT Try.prog 101 = false := by kernel_rfl
theorem pt_101 : isPtrT Try.prog 101 = false := by kernel_rfl
theorem zv_101 : zeroVs Try.prog 101 = some [V.sc (.nilFunc)] := by kernel_rfl
theorem zt_101 : zeroT Try.prog 101 = some (.nilFunc) := by kernel_rfl
theorem sz_103 : szT Try.prog 103 = some 1 := by kernel_rfl
theorem by_103 : byT Try.prog 103 = some 8 := by kernel_rfl
theorem ag_103 : aggT Try.prog 103 = false := by kernel_rfl
theorem kn_103 : knownT Try.prog 103 = true := by kernel_rfl
theorem it_103 : isIntT Try.prog 103 = false := by kernel_rfl
theorem pt_103 : isPtrT Try.prog 103 = false := by kernel_rfl
theorem zv_103 : zeroVs Try.prog 103 = some [V.sc (.nilFunc)] := by kernel_rfl
theorem zt_103 : zeroT Try.prog 103 = some (.nilFunc) := by kernel_rfl
theorem sz_105 : szT Try.prog 105 = some 1 := by kernel_rfl
theorem by_105 : byT Try.prog 105 = some 8 := by kernel_rfl
theorem ag_105 : aggT Try.prog 105 = false := by kernel_rfl
theorem kn_105 : knownT Try.prog 105 = true := by kernel_rfl
theorem it_105 : isIntT Try.prog 105 = false := by kernel_rfl
theorem pt_105 : isPtrT Try.prog 105 = false := by kernel_rfl
theorem zv_105 : zeroVs Try.prog 105 = some [V.sc (.nilFunc)] := by kernel_rfl
theorem zt_105 : zeroT Try.prog 105 = some (.nilFunc) := by kernel_rfl
theorem sz_106 : szT Try.prog 106 = some 1 := by kernel_rfl
theorem by_106 : byT Try.prog 106 = some 8 := by kernel_rfl
theorem ag_106 : aggT Try.prog 106 = false := by kernel_rfl
theorem kn_106 : knownT Try.prog 106 = true := by kernel_rfl
theorem it_106 : isIntT Try.prog 106 = false := by kernel_rfl
theorem pt_106 : isPtrT Try.prog 106 = false := by kernel_rfl
theorem zv_106 : zeroVs Try.prog 106 = some [V.sc (.nilFunc)] := by kernel_rfl
theorem zt_106 : zeroT Try.prog 106 = some (.nilFunc) := by kernel_rfl
theorem sz_108 : szT Try.prog 108 = some 1 := by kernel_rfl
theorem by_108 : byT Try.prog 108 = some 8 := by kernel_rfl
theorem ag_108 : aggT Try.prog 108 = false := by kernel_rfl
theorem kn_108 : knownT Try.prog 108 = true := by kernel_rfl
theorem it_108 : isIntT Try.prog 108 = false := by kernel_rfl
theorem pt_108 : isPtrT Try.prog 108 = false := by kernel_rfl
theorem zv_108 : zeroVs Try.prog 108 = some [V.sc (.nilFunc)] := by kernel_rfl
theorem zt_108 : zeroT Try.prog 108 = some (.nilFunc) := by kernel_rfl
theorem sz_109 : szT Try.prog 109 = some 1 := by kernel_rfl
theorem by_109 : byT Try.prog 109 = some 8 := by kernel_rfl
theorem ag_109 : aggT Try.prog 109 = false := by kernel_rfl
theorem kn_109 : knownT Try.prog 109 = true := by kernel_rfl
theorem it_109 : isIntT Try.prog 109 = false := by kernel_rfl
theorem pt_109 : isPtrT Try.prog 109 = false := by kernel_rfl
theorem zv_109 : zeroVs Try.prog 109 = some [V.sc (.nilFunc)] := by kernel_rfl
theorem zt_109 : zeroT Try.prog 109 = some (.nilFunc) := by kernel_rfl
theorem sz_110 : szT Try.prog 110 = some 1 := by kernel_rfl
theorem by_110 : byT Try.prog 110 = some 8 := by kernel_rfl
theorem ag_110 : aggT Try.prog 110 = false := by kernel_rfl
theorem kn_110 : knownT Try.prog 110 = true := by kernel_rfl
theorem it_110 : isIntT Try.prog 110 = false := by kernel_rfl
theorem pt_110 : isPtrT Try.prog 110 = false := by kernel_rfl
theorem zv_110 : zeroVs Try.prog 110 = some [V.sc (.nilFunc)] := by kernel_rfl
theorem zt_110 : zeroT Try.prog 110 = some (.nilFunc) := by kernel_rfl
theorem sz_111 : szT Try.prog 111 = some 1 := by kernel_rfl
theorem by_111 : byT Try.prog 111 = some 8 := by kernel_rfl
theorem ag_111 : aggT Try.prog 111 = false := by kernel_rfl
theorem kn_111 : knownT Try.prog 111 = true := by kernel_rfl
theorem it_111 : isIntT Try.prog 111 = false := by kernel_rfl
theorem pt_111 : isPtrT Try.prog 111 = false := by kernel_rfl
theorem zv_111 : zeroVs Try.prog 111 = some [V.sc (.nilFunc)] := by kernel_rfl
theorem zt_111 : zeroT Try.prog 111 = some (.nilFunc) := by kernel_rfl
theorem sz_112 : szT Try.prog 112 = some 1 := by kernel_rfl
theorem by_112 : byT Try.prog 112 = some 8 := by kernel_rfl
theorem ag_112 : aggT Try.prog 112 = false := by kernel_rfl
theorem kn_112 : knownT Try.prog 112 = true := by kernel_rfl
theorem it_112 : isIntT Try.prog 112 = false := by kernel_rfl
theorem pt_112 : isPtrT Try.prog 112 = false := by kernel_rfl
theorem zv_112 : zeroVs Try.prog 112 = some [V.sc (.nilFunc)] := by kernel_rfl
theorem zt_112 : zeroT Try.prog 112 = some (.nilFunc) := by kernel_rfl
theorem sz_113 : szT Try.prog 113 = some 1 := by kernel_rfl
theorem by_113 : byT Try.prog 113 = some 8 := by kernel_rfl
theorem ag_113 : aggT Try.prog 113 = false := by kernel_rfl
theorem kn_113 : knownT Try.prog 113 = true := by kernel_rfl
theorem it_113 : isIntT Try.prog 113 = false := by kernel_rfl
theorem pt_113 : isPtrT Try.prog 113 = false := by kernel_rfl
theorem zv_113 : zeroVs Try.prog 113 = some [V.sc (.nilFunc)] := by kernel_rfl
theorem zt_113 : zeroT Try.prog 113 = some (.nilFunc) := by kernel_rfl
theorem sz_114 : szT Try.prog 114 = some 3 := by kernel_rfl
theorem by_114 : byT Try.prog 114 = some 40 := by kernel_rfl
theorem ag_114 : aggT Try.prog 114 = true := by kernel_rfl
theorem kn_114 : knownT Try.prog 114 = true := by kernel_rfl
theorem it_114 : isIntT Try.prog 114 = false := by kernel_rfl
theorem pt_114 : isPtrT Try.prog 114 = false := by kernel_rfl
theorem pl_114 : placesT Try.prog 114 = some [(0, 2), (2, 1)] := by kernel_rfl
theorem sh_114 : shapeT Try.prog 114 = true := by kernel_rfl
theorem fo_114_0 : fieldOf Try.prog 114 0 = some (0, 35) := by kernel_rfl
theorem fo_114_1 : fieldOf Try.prog 114 1 = some (2, 4) := by kernel_rfl
theorem zv_114 : zeroVs Try.prog 114 = some [V.sc (.int .i64 0), V.sc (.slice none 0 0), V.sc (.bool false)] := by kernel_rfl
theorem zt_114 : zeroT Try.prog 114 = some (.agg #[.int .i64 0, .slice none 0 0, .bool false]) := by kernel_rfl
theorem sz_115 : szT Try.prog 115 = some 3 := by kernel_rfl
theorem by_115 : byT Try.prog 115 = some 40 := by kernel_rfl
theorem ag_115 : aggT Try.prog 115 = true := by kernel_rfl
theorem kn_115 : knownT Try.prog 115 = true := by kernel_rfl
theorem it_115 : isIntT Try.prog 115 = false := by kernel_rfl
theorem pt_115 : isPtrT Try.prog 115 = false := by kernel_rfl
theorem pl_115 : placesT Try.prog 115 = some [(0, 2), (2, 1)] := by kernel_rfl
theorem sh_115 : shapeT Try.prog 115 = true := by kernel_rfl
theorem fo_115_0 : fieldOf Try.prog 115 0 = some (0, 35) := by kernel_rfl
theorem fo_115_1 : fieldOf Try.prog 115 1 = some (2, 4) := by kernel_rfl
theorem zv_115 : zeroVs Try.prog 115 = some [V.sc (.int .i64 0), V.sc (.slice none 0 0), V.sc (.bool false)] := by kernel_rfl
theorem zt_115 : zeroT Try.prog 115 = some (.agg #[.int .i64 0, .slice none 0 0, .bool false]) := by kernel_rfl
theorem sz_116 : szT Try.prog 116 = some 192 := by kernel_rfl
theorem by_116 : byT Try.prog 116 = some 2560 := by kernel_rfl
theorem ag_116 : aggT Try.prog 116 = true := by kernel_rfl
theorem kn_116 : knownT Try.prog 116 = true := by kernel_rfl
theorem it_116 : isIntT Try.prog 116 = false := by kernel_rfl
theorem pt_116 : isPtrT Try.prog 116 = false := by kernel_rfl
theorem el_116 : elemT Try.prog 116 = some 3 := by kernel_rfl
theorem pl_116 : placesT Try.prog 116 = none := by kernel_rfl
theorem sh_116 : shapeT Try.prog 116 = true := by kernel_rfl
theorem sz_117 : szT Try.prog 117 = some 193 := by kernel_rfl
theorem by_117 : byT Try.prog 117 = some 2568 := by kernel_rfl
theorem ag_117 : aggT Try.prog 117 = true := by kernel_rfl
theorem kn_117 : knownT Try.prog 117 = true := by kernel_rfl
theorem it_117 : isIntT Try.prog 117 = false := by kernel_rfl
theorem pt_117 : isPtrT Try.prog 117 = false := by kernel_rfl
theorem pl_117 : placesT Try.prog 117 = some [(0, 192), (192, 1)] := by kernel_rfl
theorem sh_117 : shapeT Try.prog 117 = true := by kernel_rfl
theorem fo_117_0 : fieldOf Try.prog 117 0 = some (0, 116) := by kernel_rfl
theorem fo_117_1 : fieldOf Try.prog 117 1 = some (192, 3) := by kernel_rfl
theorem sz_118 : szT Try.prog 118 = some 193 := by kernel_rfl
theorem by_118 : byT Try.prog 118 = some 2568 := by kernel_rfl
theorem ag_118 : aggT Try.prog 118 = true := by kernel_rfl
theorem kn_118 : knownT Try.prog 118 = true := by kernel_rfl
theorem it_118 : isIntT Try.prog 118 = false := by kernel_rfl
theorem pt_118 : isPtrT Try.prog 118 = false := by kernel_rfl
theorem pl_118 : placesT Try.prog 118 = some [(0, 192), (192, 1)] := by kernel_rfl
theorem sh_118 : shapeT Try.prog 118 = true := by kernel_rfl
theorem fo_118_0 : fieldOf Try.prog 118 0 = some (0, 116) := by kernel_rfl
theorem fo_118_1 : fieldOf Try.prog 118 1 = some (192, 3) := by kernel_rfl
theorem sz_119 : szT Try.prog 119 = some 1 := by kernel_rfl
theorem by_119 : byT Try.prog 119 = some 8 := by kernel_rfl
theorem ag_119 : aggT Try.prog 119 = false := by kernel_rfl
theorem kn_119 : knownT Try.prog 119 = true := by kernel_rfl
theorem it_119 : isIntT Try.prog 119 = false := by kernel_rfl
theorem pt_119 : isPtrT Try.prog 119 = false := by kernel_rfl
theorem zv_119 : zeroVs Try.prog 119 = some [V.sc (.nilFunc)] := by kernel_rfl
theorem zt_119 : zeroT Try.prog 119 = some (.nilFunc) := by kernel_rfl
theorem sz_120 : szT Try.prog 120 = some 1 := by kernel_rfl
theorem by_120 : byT Try.prog 120 = some 8 := by kernel_rfl
theorem ag_120 : aggT Try.prog 120 = false := by kernel_rfl
theorem kn_120 : knownT Try.prog 120 = true := by kernel_rfl
theorem it_120 : isIntT Try.prog 120 = false := by kernel_rfl
theorem pt_120 : isPtrT Try.prog 120 = true := by kernel_rfl
theorem zv_120 : zeroVs Try.prog 120 = some [V.sc (.pointer none)] := by kernel_rfl
theorem zt_120 : zeroT Try.prog 120 = some (.pointer none) := by kernel_rfl
theorem sz_121 : szT Try.prog 121 = some 1 := by kernel_rfl
theorem by_121 : byT Try.prog 121 = some 8 := by kernel_rfl
theorem ag_121 : aggT Try.prog 121 = false := by kernel_rfl
theorem kn_121 : knownT Try.prog 121 = true := by kernel_rfl
theorem it_121 : isIntT Try.prog 121 = false := by kernel_rfl
theorem pt_121 : isPtrT Try.prog 121 = false := by kernel_rfl
theorem zv_121 : zeroVs Try.prog 121 = some [V.sc (.nilFunc)] := by kernel_rfl
theorem zt_121 : zeroT Try.prog 121 = some (.nilFunc) := by kernel_rfl
theorem sz_122 : szT Try.prog 122 = some 1 := by kernel_rfl
theorem by_122 : byT Try.prog 122 = some 24 := by kernel_rfl
theorem ag_122 : aggT Try.prog 122 = false := by kernel_rfl
theorem kn_122 : knownT Try.prog 122 = true := by kernel_rfl
theorem it_122 : isIntT Try.prog 122 = false := by kernel_rfl
theorem pt_122 : isPtrT Try.prog 122 = false := by kernel_rfl
theorem zv_122 : zeroVs Try.prog 122 = some [V.sc (.slice none 0 0)] := by kernel_rfl
theorem zt_122 : zeroT Try.prog 122 = some (.slice none 0 0) := by kernel_rfl
theorem sz_123 : szT Try.prog 123 = some 1 := by kernel_rfl
theorem by_123 : byT Try.prog 123 = some 8 := by kernel_rfl
theorem ag_123 : aggT Try.prog 123 = false := by kernel_rfl
theorem kn_123 : knownT Try.prog 123 = true := by kernel_rfl
theorem it_123 : isIntT Try.prog 123 = false := by kernel_rfl
theorem pt_123 : isPtrT Try.prog 123 = false := by kernel_rfl
theorem zv_123 : zeroVs Try.prog 123 = some [V.sc (.nilFunc)] := by kernel_rfl
theorem zt_123 : zeroT Try.prog 123 = some (.nilFunc) := by kernel_rfl
theorem sz_124 : szT Try.prog 124 = some 1 := by kernel_rfl
theorem by_124 : byT Try.prog 124 = some 8 := by kernel_rfl
theorem ag_124 : aggT Try.prog 124 = false := by kernel_rfl
theorem kn_124 : knownT Try.prog 124 = true := by kernel_rfl
theorem it_124 : isIntT Try.prog 124 = false := by kernel_rfl
theorem pt_124 : isPtrT Try.prog 124 = false := by kernel_rfl
theorem zv_124 : zeroVs Try.prog 124 = some [V.sc (.nilFunc)] := by kernel_rfl
theorem zt_124 : zeroT Try.prog 124 = some (.nilFunc) := by kernel_rfl
theorem sz_125 : szT Try.prog 125 = some 1 := by kernel_rfl
theorem by_125 : byT Try.prog 125 = some 8 := by kernel_rfl
theorem ag_125 : aggT Try.prog 125 = false := by kernel_rfl
theorem kn_125 : knownT Try.prog 125 = true := by kernel_rfl
theorem it_125 : isIntT Try.prog 125 = false := by kernel_rfl
theorem pt_125 : isPtrT Try.prog 125 = false := by kernel_rfl
theorem zv_125 : zeroVs Try.prog 125 = some [V.sc (.map none)] := by kernel_rfl
theorem zt_125 : zeroT Try.prog 125 = some (.map none) := by kernel_rfl
theorem sz_126 : szT Try.prog 126 = some 3 := by kernel_rfl
theorem by_126 : byT Try.prog 126 = some 40 := by kernel_rfl
theorem ag_126 : aggT Try.prog 126 = true := by kernel_rfl
theorem kn_126 : knownT Try.prog 126 = true := by kernel_rfl
theorem it_126 : isIntT Try.prog 126 = false := by kernel_rfl
theorem pt_126 : isPtrT Try.prog 126 = false := by kernel_rfl
theorem pl_126 : placesT Try.prog 126 = some [(0, 1), (1, 1), (2, 1)] := by kernel_rfl
theorem sh_126 : shapeT Try.prog 126 = true := by kernel_rfl
theorem fo_126_0 : fieldOf Try.prog 126 0 = some (0, 58) := by kernel_rfl
theorem fo_126_1 : fieldOf Try.prog 126 1 = some (1, 125) := by kernel_rfl
theorem fo_126_2 : fieldOf Try.prog 126 2 = some (2, 3) := by kernel_rfl
theorem zv_126 : zeroVs Try.prog 126 = some [V.sc (.slice none 0 0), V.sc (.map none), V.sc (.int .i64 0)] := by kernel_rfl
theorem zt_126 : zeroT Try.prog 126 = some (.agg #[.slice none 0 0, .map none, .int .i64 0]) := by kernel_rfl
theorem sz_127 : szT Try.prog 127 = some 3 := by kernel_rfl
theorem by_127 : byT Try.prog 127 = some 40 := by kernel_rfl
theorem ag_127 : aggT Try.prog 127 = true := by kernel_rfl
theorem kn_127 : knownT Try.prog 127 = true := by kernel_rfl
theorem it_127 : isIntT Try.prog 127 = false := by kernel_rfl
theorem pt_127 : isPtrT Try.prog 127 = false := by kernel_rfl
theorem pl_127 : placesT Try.prog 127 = some [(0, 1), (1, 1), (2, 1)] := by kernel_rfl
theorem sh_127 : shapeT Try.prog 127 = true := by kernel_rfl
theorem fo_127_0 : fieldOf Try.prog 127 0 = some (0, 58) := by kernel_rfl
theorem fo_127_1 : fieldOf Try.prog 127 1 = some (1, 125) := by kernel_rfl
theorem fo_127_2 : fieldOf Try.prog 127 2 = some (2, 3) := by kernel_rfl
theorem zv_127 : zeroVs Try.prog 127 = some [V.sc (.slice none 0 0), V.sc (.map none), V.sc (.int .i64 0)] := by kernel_rfl
theorem zt_127 : zeroT Try.prog 127 = some (.agg #[.slice none 0 0, .map none, .int .i64 0]) := by kernel_rfl
theorem sz_128 : szT Try.prog 128 = some 1 := by kernel_rfl
theorem by_128 : byT Try.prog 128 = some 8 := by kernel_rfl
theorem ag_128 : aggT Try.prog 128 = false := by kernel_rfl
theorem kn_128 : knownT Try.prog 128 = true := by kernel_rfl
theorem it_128 : isIntT Try.prog 128 = false := by kernel_rfl
theorem pt_128 : isPtrT Try.prog 128 = false := by kernel_rfl
theorem zv_128 : zeroVs Try.prog 128 = some [V.sc (.nilFunc)] := by kernel_rfl
theorem zt_128 : zeroT Try.prog 128 = some (.nilFunc) := by kernel_rfl
theorem sz_129 : szT Try.prog 129 = some 1 := by kernel_rfl
theorem by_129 : byT Try.prog 129 = some 8 := by kernel_rfl
theorem ag_129 : aggT Try.prog 129 = false := by kernel_rfl
theorem kn_129 : knownT Try.prog 129 = true := by kernel_rfl
theorem it_129 : isIntT Try.prog 129 = true := by kernel_rfl
theorem pt_129 : isPtrT Try.prog 129 = false := by kernel_rfl
theorem zv_129 : zeroVs Try.prog 129 = some [V.sc (.int .u64 0)] := by kernel_rfl
theorem zt_129 : zeroT Try.prog 129 = some (.int .u64 0) := by kernel_rfl
theorem sz_130 : szT Try.prog 130 = some 1 := by kernel_rfl
theorem by_130 : byT Try.prog 130 = some 8 := by kernel_rfl
theorem ag_130 : aggT Try.prog 130 = false := by kernel_rfl
theorem kn_130 : knownT Try.prog 130 = true := by kernel_rfl
theorem it_130 : isIntT Try.prog 130 = false := by kernel_rfl
theorem pt_130 : isPtrT Try.prog 130 = false := by kernel_rfl
theorem zv_130 : zeroVs Try.prog 130 = some [V.sc (.nilFunc)] := by kernel_rfl
theorem zt_130 : zeroT Try.prog 130 = some (.nilFunc) := by kernel_rfl
theorem sz_131 : szT Try.prog 131 = some 1 := by kernel_rfl
theorem by_131 : byT Try.prog 131 = some 8 := by kernel_rfl
theorem ag_131 : aggT Try.prog 131 = false := by kernel_rfl
theorem kn_131 : knownT Try.prog 131 = true := by kernel_rfl
theorem it_131 : isIntT Try.prog 131 = false := by kernel_rfl
theorem pt_131 : isPtrT Try.prog 131 = false := by kernel_rfl
theorem zv_131 : zeroVs Try.prog 131 = some [V.sc (.nilFunc)] := by kernel_rfl
theorem zt_131 : zeroT Try.prog 131 = some (.nilFunc) := by kernel_rfl
theorem sz_133 : szT Try.prog 133 = some 1 := by kernel_rfl
theorem by_133 : byT Try.prog 133 = some 8 := by kernel_rfl
theorem ag_133 : aggT Try.prog 133 = false := by kernel_rfl
theorem kn_133 : knownT Try.prog 133 = true := by kernel_rfl
theorem it_133 : isIntT Try.prog 133 = false := by kernel_rfl
theorem pt_133 : isPtrT Try.prog 133 = false := by kernel_rfl
theorem zv_133 : zeroVs Try.prog 133 = some [V.sc (.nilFunc)] := by kernel_rfl
theorem zt_133 : zeroT Try.prog 133 = some (.nilFunc) := by kernel_rfl
theorem sz_134 : szT Try.prog 134 = some 1 := by kernel_rfl
theorem by_134 : byT Try.prog 134 = some 8 := by kernel_rfl
theorem ag_134 : aggT Try.prog 134 = false := by kernel_rfl
theorem kn_134 : knownT Try.prog 134 = true := by kernel_rfl
theorem it_134 : isIntT Try.prog 134 = false := by kernel_rfl
theorem pt_134 : isPtrT Try.prog 134 = false := by kernel_rfl
theorem zv_134 : zeroVs Try.prog 134 = some [V.sc (.nilFunc)] := by kernel_rfl
theorem zt_134 : zeroT Try.prog 134 = some (.nilFunc) := by kernel_rfl
theorem sz_136 : szT Try.prog 136 = some 1 := by kernel_rfl
theorem by_136 : byT Try.prog 136 = some 8 := by kernel_rfl
theorem ag_136 : aggT Try.prog 136 = false := by kernel_rfl
theorem kn_136 : knownT Try.prog 136 = true := by kernel_rfl
theorem it_136 : isIntT Try.prog 136 = false := by kernel_rfl
theorem pt_136 : isPtrT Try.prog 136 = false := by kernel_rfl
theorem zv_136 : zeroVs Try.prog 136 = some [V.sc (.nilFunc)] := by kernel_rfl
theorem zt_136 : zeroT Try.prog 136 = some (.nilFunc) := by kernel_rfl
theorem sz_137 : szT Try.prog 137 = some 3 := by kernel_rfl
theorem by_137 : byT Try.prog 137 = some 40 := by kernel_rfl
theorem ag_137 : aggT Try.prog 137 = true := by kernel_rfl
theorem kn_137 : knownT Try.prog 137 = true := by kernel_rfl
theorem it_137 : isIntT Try.prog 137 = false := by kernel_rfl
theorem pt_137 : isPtrT Try.prog 137 = false := by kernel_rfl
theorem pl_137 : placesT Try.prog 137 = some [(0, 1), (1, 1), (2, 1)] := by kernel_rfl
theorem sh_137 : shapeT Try.prog 137 = true := by kernel_rfl
theorem fo_137_0 : fieldOf Try.prog 137 0 = some (0, 9) := by kernel_rfl
theorem fo_137_1 : fieldOf Try.prog 137 1 = some (1, 9) := by kernel_rfl
theorem fo_137_2 : fieldOf Try.prog 137 2 = some (2, 4) := by kernel_rfl
theorem zv_137 : zeroVs Try.prog 137 = some [V.sc (.string ⟨#[]⟩), V.sc (.string ⟨#[]⟩), V.sc (.bool false)] := by kernel_rfl
theorem zt_137 : zeroT Try.prog 137 = some (.agg #[.string ⟨#[]⟩, .string ⟨#[]⟩, .bool false]) := by kernel_rfl
theorem sz_138 : szT Try.prog 138 = some 3 := by kernel_rfl
theorem by_138 : byT Try.prog 138 = some 40 := by kernel_rfl
theorem ag_138 : aggT Try.prog 138 = true := by kernel_rfl
theorem kn_138 : knownT Try.prog 138 = true := by kernel_rfl
theorem it_138 : isIntT Try.prog 138 = false := by kernel_rfl
theorem pt_138 : isPtrT Try.prog 138 = false := by kernel_rfl
theorem pl_138 : placesT Try.prog 138 = some [(0, 1), (1, 1), (2, 1)] := by kernel_rfl
theorem sh_138 : shapeT Try.prog 138 = true := by kernel_rfl
theorem fo_138_0 : fieldOf Try.prog 138 0 = some (0, 9) := by kernel_rfl
theorem fo_138_1 : fieldOf Try.prog 138 1 = some (1, 9) := by kernel_rfl
theorem fo_138_2 : fieldOf Try.prog 138 2 = some (2, 4) := by kernel_rfl
theorem zv_138 : zeroVs Try.prog 138 = some [V.sc (.string ⟨#[]⟩), V.sc (.string ⟨#[]⟩), V.sc (.bool false)] := by kernel_rfl
theorem zt_138 : zeroT Try.prog 138 = some (.agg #[.string ⟨#[]⟩, .string ⟨#[]⟩, .bool false]) := by kernel_rfl
theorem sz_139 : szT Try.prog 139 = some 1 := by kernel_rfl
theorem by_139 : byT Try.prog 139 = some 8 := by kernel_rfl
theorem ag_139 : aggT Try.prog 139 = false := by kernel_rfl
theorem kn_139 : knownT Try.prog 139 = true := by kernel_rfl
theorem it_139 : isIntT Try.prog 139 = false := by kernel_rfl
theorem pt_139 : isPtrT Try.prog 139 = false := by kernel_rfl
theorem zv_139 : zeroVs Try.prog 139 = some [V.sc (.nilFunc)] := by kernel_rfl
theorem zt_139 : zeroT Try.prog 139 = some (.nilFunc) := by kernel_rfl
theorem sz_140 : szT Try.prog 140 = some 4 := by kernel_rfl
theorem by_140 : byT Try.prog 140 = some 32 := by kernel_rfl
theorem ag_140 : aggT Try.prog 140 = true := by kernel_rfl
theorem kn_140 : knownT Try.prog 140 = true := by kernel_rfl
theorem it_140 : isIntT Try.prog 140 = false := by kernel_rfl
theorem pt_140 : isPtrT Try.prog 140 = false := by kernel_rfl
theorem pl_140 : placesT Try.prog 140 = some [(0, 1), (1, 3)] := by kernel_rfl
theorem sh_140 : shapeT Try.prog 140 = true := by kernel_rfl
theorem fo_140_0 : fieldOf Try.prog 140 0 = some (0, 55) := by kernel_rfl
theorem fo_140_1 : fieldOf Try.prog 140 1 = some (1, 78) := by kernel_rfl
theorem zv_140 : zeroVs Try.prog 140 = some [V.sc (.pointer none), V.sc (.int .i64 0), V.sc (.int .i64 0), V.sc (.int .i64 0)] := by kernel_rfl
theorem zt_140 : zeroT Try.prog 140 = some (.agg #[.pointer none, .int .i64 0, .int .i64 0, .int .i64 0]) := by kernel_rfl
theorem sz_141 : szT Try.prog 141 = some 4 := by kernel_rfl
theorem by_141 : byT Try.prog 141 = some 32 := by kernel_rfl
theorem ag_141 : aggT Try.prog 141 = true := by kernel_rfl
theorem kn_141 : knownT Try.prog 141 = true := by kernel_rfl
theorem it_141 : isIntT Try.prog 141 = false := by kernel_rfl
theorem pt_141 : isPtrT Try.prog 141 = false := by kernel_rfl
theorem pl_141 : placesT Try.prog 141 = some [(0, 1), (1, 3)] := by kernel_rfl
theorem sh_141 : shapeT Try.prog 141 = true := by kernel_rfl
theorem fo_141_0 : fieldOf Try.prog 141 0 = some (0, 55) := by kernel_rfl
theorem fo_141_1 : fieldOf Try.prog 141 1 = some (1, 78) := by kernel_rfl
theorem zv_141 : zeroVs Try.prog 141 = some [V.sc (.pointer none), V.sc (.int .i64 0), V.sc (.int .i64 0), V.sc (.int .i64 0)] := by kernel_rfl
theorem zt_141 : zeroT Try.prog 141 = some (.agg #[.pointer none, .int .i64 0, .int .i64 0, .int .i64 0]) := by kernel_rfl
theorem sz_142 : szT Try.prog 142 = some 1 := by kernel_rfl
theorem by_142 : byT Try.prog 142 = some 8 := by kernel_rfl
theorem ag_142 : aggT Try.prog 142 = false := by kernel_rfl
theorem kn_142 : knownT Try.prog 142 = true := by kernel_rfl
theorem it_142 : isIntT Try.prog 142 = false := by kernel_rfl
theorem pt_142 : isPtrT Try.prog 142 = false := by kernel_rfl
theorem zv_142 : zeroVs Try.prog 142 = some [V.sc (.nilFunc)] := by kernel_rfl
theorem zt_142 : zeroT Try.prog 142 = some (.nilFunc) := by kernel_rfl
theorem sz_143 : szT Try.prog 143 = some 1 := by kernel_rfl
theorem by_143 : byT Try.prog 143 = some 8 := by kernel_rfl
theorem ag_143 : aggT Try.prog 143 = false := by kernel_rfl
theorem kn_143 : knownT Try.prog 143 = true := by kernel_rfl
theorem it_143 : isIntT Try.prog 143 = false := by kernel_rfl
theorem pt_143 : isPtrT Try.prog 143 = false := by kernel_rfl
theorem zv_143 : zeroVs Try.prog 143 = some [V.sc (.nilFunc)] := by kernel_rfl
theorem zt_143 : zeroT Try.prog 143 = some (.nilFunc) := by kernel_rfl
theorem sz_144 : szT Try.prog 144 = some 1 := by kernel_rfl
theorem by_144 : byT Try.prog 144 = some 8 := by kernel_rfl
theorem ag_144 : aggT Try.prog 144 = false := by kernel_rfl
theorem kn_144 : knownT Try.prog 144 = true := by kernel_rfl
theorem it_144 : isIntT Try.prog 144 = false := by kernel_rfl
theorem pt_144 : isPtrT Try.prog 144 = false := by kernel_rfl
theorem zv_144 : zeroVs Try.prog 144 = some [V.sc (.nilFunc)] := by kernel_rfl
theorem zt_144 : zeroT Try.prog 144 = some (.nilFunc) := by kernel_rfl
theorem sz_145 : szT Try.prog 145 = some 1 := by kernel_rfl
theorem by_145 : byT Try.prog 145 = some 8 := by kernel_rfl
theorem ag_145 : aggT Try.prog 145 = false := by kernel_rfl
theorem kn_145 : knownT Try.prog 145 = true := by kernel_rfl
theorem it_145 : isIntT Try.prog 145 = false := by kernel_rfl
theorem pt_145 : isPtrT Try.prog 145 = false := by kernel_rfl
theorem zv_145 : zeroVs Try.prog 145 = some [V.sc (.nilFunc)] := by kernel_rfl
theorem zt_145 : zeroT Try.prog 145 = some (.nilFunc) := by kernel_rfl
theorem sz_146 : szT Try.prog 146 = some 1 := by kernel_rfl
theorem by_146 : byT Try.prog 146 = some 8 := by kernel_rfl
theorem ag_146 : aggT Try.prog 146 = false := by kernel_rfl
theorem kn_146 : knownT Try.prog 146 = true := by kernel_rfl
theorem it_146 : isIntT Try.prog 146 = false := by kernel_rfl
theorem pt_146 : isPtrT Try.prog 146 = true := by kernel_rfl
theorem zv_146 : zeroVs Try.prog 146 = some [V.sc (.pointer none)] := by kernel_rfl
theorem zt_146 : zeroT Try.prog 146 = some (.pointer none) := by kernel_rfl
theorem sz_147 : szT Try.prog 147 = some 3 := by kernel_rfl
theorem by_147 : byT Try.prog 147 = some 40 := by kernel_rfl
theorem ag_147 : aggT Try.prog 147 = true := by kernel_rfl
theorem kn_147 : knownT Try.prog 147 = true := by kernel_rfl
theorem it_147 : isIntT Try.prog 147 = false := by kernel_rfl
theorem pt_147 : isPtrT Try.prog 147 = false := by kernel_rfl
theorem pl_147 : placesT Try.prog 147 = some [(0, 1), (1, 1), (2, 1)] := by kernel_rfl
theorem sh_147 : shapeT Try.prog 147 = true := by kernel_rfl
theorem fo_147_0 : fieldOf Try.prog 147 0 = some (0, 33) := by kernel_rfl
theorem fo_147_1 : fieldOf Try.prog 147 1 = some (1, 3) := by kernel_rfl
theorem fo_147_2 : fieldOf Try.prog 147 2 = some (2, 64) := by kernel_rfl
theorem zv_147 : zeroVs Try.prog 147 = some [V.sc (.slice none 0 0), V.sc (.int .i64 0), V.sc (.int .i64 0)] := by kernel_rfl
theorem zt_147 : zeroT Try.prog 147 = some (.agg #[.slice none 0 0, .int .i64 0, .int .i64 0]) := by kernel_rfl
theorem sz_148 : szT Try.prog 148 = some 3 := by kernel_rfl
theorem by_148 : byT Try.prog 148 = some 40 := by kernel_rfl
theorem ag_148 : aggT Try.prog 148 = true := by kernel_rfl
theorem kn_148 : knownT Try.prog 148 = true := by kernel_rfl
theorem it_148 : isIntT Try.prog 148 = false := by kernel_rfl
theorem pt_148 : isPtrT Try.prog 148 = false := by kernel_rfl
theorem pl_148 : placesT Try.prog 148 = some [(0, 1), (1, 1), (2, 1)] := by kernel_rfl
theorem sh_148 : shapeT Try.prog 148 = true := by kernel_rfl
theorem fo_148_0 : fieldOf Try.prog 148 0 = some (0, 33) := by kernel_rfl
theorem fo_148_1 : fieldOf Try.prog 148 1 = some (1, 3) := by kernel_rfl
theorem fo_148_2 : fieldOf Try.prog 148 2 = some (2, 64) := by kernel_rfl
theorem zv_148 : zeroVs Try.prog 148 = some [V.sc (.slice none 0 0), V.sc (.int .i64 0), V.sc (.int .i64 0)] := by kernel_rfl
theorem zt_148 : zeroT Try.prog 148 = some (.agg #[.slice none 0 0, .int .i64 0, .int .i64 0]) := by kernel_rfl
theorem sz_149 : szT Try.prog 149 = some 1 := by kernel_rfl
theorem by_149 : byT Try.prog 149 = some 8 := by kernel_rfl
theorem ag_149 : aggT Try.prog 149 = false := by kernel_rfl
theorem kn_149 : knownT Try.prog 149 = true := by kernel_rfl
theorem it_149 : isIntT Try.prog 149 = false := by kernel_rfl
theorem pt_149 : isPtrT Try.prog 149 = false := by kernel_rfl
theorem zv_149 : zeroVs Try.prog 149 = some [V.sc (.nilFunc)] := by kernel_rfl
theorem zt_149 : zeroT Try.prog 149 = some (.nilFunc) := by kernel_rfl
theorem sz_151 : szT Try.prog 151 = some 1 := by kernel_rfl
theorem by_151 : byT Try.prog 151 = some 8 := by kernel_rfl
theorem ag_151 : aggT Try.prog 151 = false := by kernel_rfl
theorem kn_151 : knownT Try.prog 151 = true := by kernel_rfl
theorem it_151 : isIntT Try.prog 151 = false := by kernel_rfl
theorem pt_151 : isPtrT Try.prog 151 = false := by kernel_rfl
theorem zv_151 : zeroVs Try.prog 151 = some [V.sc (.nilFunc)] := by kernel_rfl
theorem zt_151 : zeroT Try.prog 151 = some (.nilFunc) := by kernel_rfl
theorem sz_152 : szT Try.prog 152 = some 1 := by kernel_rfl
theorem by_152 : byT Try.prog 152 = some 8 := by kernel_rfl
theorem ag_152 : aggT Try.prog 152 = false := by kernel_rfl
theorem kn_152 : knownT Try.prog 152 = true := by kernel_rfl
theorem it_152 : isIntT Try.prog 152 = false := by kernel_rfl
theorem pt_152 : isPtrT Try.prog 152 = false := by kernel_rfl
theorem zv_152 : zeroVs Try.prog 152 = some [V.sc (.nilFunc)] := by kernel_rfl
theorem zt_152 : zeroT Try.prog 152 = some (.nilFunc) := by kernel_rfl
theorem sz_153 : szT Try.prog 153 = some 7 := by kernel_rfl
theorem by_153 : byT Try.prog 153 = some 72 := by kernel_rfl
theorem ag_153 : aggT Try.prog 153 = true := by kernel_rfl
theorem kn_153 : knownT Try.prog 153 = true := by kernel_rfl
theorem it_153 : isIntT Try.prog 153 = false := by kernel_rfl
theorem pt_153 : isPtrT Try.prog 153 = false := by kernel_rfl
theorem pl_153 : placesT Try.prog 153 = some [(0, 1), (1, 6)] := by kernel_rfl
theorem sh_153 : shapeT Try.prog 153 = true := by kernel_rfl
theorem fo_153_0 : fieldOf Try.prog 153 0 = some (0, 4) := by kernel_rfl
theorem fo_153_1 : fieldOf Try.prog 153 1 = some (1, 81) := by kernel_rfl
theorem zv_153 : zeroVs Try.prog 153 = some [V.sc (.bool false), V.sc (.int .i64 0), V.sc (.int .i64 0), V.sc (.int .i64 0), V.sc (.int .i64 0), V.sc (.int .i64 0), V.sc (.slice none 0 0)] := by kernel_rfl
theorem zt_153 : zeroT Try.prog 153 = some (.agg #[.bool false, .int .i64 0, .int .i64 0, .int .i64 0, .int .i64 0, .int .i64 0, .slice none 0 0]) := by kernel_rfl
theorem sz_154 : szT Try.prog 154 = some 7 := by kernel_rfl
theorem by_154 : byT Try.prog 154 = some 72 := by kernel_rfl
theorem ag_154 : aggT Try.prog 154 = true := by kernel_rfl
theorem kn_154 : knownT Try.prog 154 = true := by kernel_rfl
theorem it_154 : isIntT Try.prog 154 = false := by kernel_rfl
theorem pt_154 : isPtrT Try.prog 154 = false := by kernel_rfl
theorem pl_154 : placesT Try.prog 154 = some [(0, 1), (1, 6)] := by kernel_rfl
theorem sh_154 : shapeT Try.prog 154 = true := by kernel_rfl
theorem fo_154_0 : fieldOf Try.prog 154 0 = some (0, 4) := by kernel_rfl
theorem fo_154_1 : fieldOf Try.prog 154 1 = some (1, 81) := by kernel_rfl
theorem zv_154 : zeroVs Try.prog 154 = some [V.sc (.bool false), V.sc (.int .i64 0), V.sc (.int .i64 0), V.sc (.int .i64 0), V.sc (.int .i64 0), V.sc (.int .i64 0), V.sc (.slice none 0 0)] := by kernel_rfl
theorem zt_154 : zeroT Try.prog 154 = some (.agg #[.bool false, .int .i64 0, .int .i64 0, .int .i64 0, .int .i64 0, .int .i64 0, .slice none 0 0]) := by kernel_rfl
theorem sz_155 : szT Try.prog 155 = some 7 := by kernel_rfl
theorem by_155 : byT Try.prog 155 = some 72 := by kernel_rfl
theorem ag_155 : aggT Try.prog 155 = true := by kernel_rfl
theorem kn_155 : knownT Try.prog 155 = true := by kernel_rfl
theorem it_155 : isIntT Try.prog 155 = false := by kernel_rfl
theorem pt_155 : isPtrT Try.prog 155 = false := by kernel_rfl
theorem pl_155 : placesT Try.prog 155 = some [(0, 1), (1, 6)] := by kernel_rfl
theorem sh_155 : shapeT Try.prog 155 = true := by kernel_rfl
theorem fo_155_0 : fieldOf Try.prog 155 0 = some (0, 4) := by kernel_rfl
theorem fo_155_1 : fieldOf Try.prog 155 1 = some (1, 81) := by kernel_rfl
theorem zv_155 : zeroVs Try.prog 155 = some [V.sc (.bool false), V.sc (.int .i64 0), V.sc (.int .i64 0), V.sc (.int .i64 0), V.sc (.int .i64 0), V.sc (.int .i64 0), V.sc (.slice none 0 0)] := by kernel_rfl
theorem zt_155 : zeroT Try.prog 155 = some (.agg #[.bool false, .int .i64 0, .int .i64 0, .int .i64 0, .int .i64 0, .int .i64 0, .slice none 0 0]) := by kernel_rfl
theorem sz_156 : szT Try.prog 156 = some 1 := by kernel_rfl
theorem by_156 : byT Try.prog 156 = some 8 := by kernel_rfl
theorem ag_156 : aggT Try.prog 156 = false := by kernel_rfl
theorem kn_156 : knownT Try.prog 156 = true := by kernel_rfl
theorem it_156 : isIntT Try.prog 156 = false := by kernel_rfl
theorem pt_156 : isPtrT Try.prog 156 = false := by kernel_rfl
theorem zv_156 : zeroVs Try.prog 156 = some [V.sc (.nilFunc)] := by kernel_rfl
theorem zt_156 : zeroT Try.prog 156 = some (.nilFunc) := by kernel_rfl
theorem sz_157 : szT Try.prog 157 = some 1 := by kernel_rfl
theorem by_157 : byT Try.prog 157 = some 8 := by kernel_rfl
theorem ag_157 : aggT Try.prog 157 = false := by kernel_rfl
theorem kn_157 : knownT Try.prog 157 = true := by kernel_rfl
theorem it_157 : isIntT Try.prog 157 = false := by kernel_rfl
theorem pt_157 : isPtrT Try.prog 157 = false := by kernel_rfl
theorem zv_157 : zeroVs Try.prog 157 = some [V.sc (.nilFunc)] := by kernel_rfl
theorem zt_157 : zeroT Try.prog 157 = some (.nilFunc) := by kernel_rfl
theorem sz_158 : szT Try.prog 158 = some 1 := by kernel_rfl
theorem by_158 : byT Try.prog 158 = some 8 := by kernel_rfl
theorem ag_158 : aggT Try.prog 158 = false := by kernel_rfl
theorem kn_158 : knownT Try.prog 158 = true := by kernel_rfl
theorem it_158 : isIntT Try.prog 158 = false := by kernel_rfl
theorem pt_158 : isPtrT Try.prog 158 = false := by kernel_rfl
theorem zv_158 : zeroVs Try.prog 158 = some [V.sc (.nilFunc)] := by kernel_rfl
theorem zt_158 : zeroT Try.prog 158 = some (.nilFunc) := by kernel_rfl
theorem sz_159 : szT Try.prog 159 = some 9 := by kernel_rfl
theorem by_159 : byT Try.prog 159 = some 88 := by kernel_rfl
theorem ag_159 : aggT Try.prog 159 = true := by kernel_rfl
theorem kn_159 : knownT Try.prog 159 = true := by kernel_rfl
theorem it_159 : isIntT Try.prog 159 = false := by kernel_rfl
theorem pt_159 : isPtrT Try.prog 159 = false := by kernel_rfl
theorem pl_159 : placesT Try.prog 159 = some [(0, 7), (7, 1), (8, 1)] := by kernel_rfl
theorem sh_159 : shapeT Try.prog 159 = true := by kernel_rfl
theorem fo_159_0 : fieldOf Try.prog 159 0 = some (0, 154) := by kernel_rfl
theorem fo_159_1 : fieldOf Try.prog 159 1 = some (7, 3) := by kernel_rfl
theorem fo_159_2 : fieldOf Try.prog 159 2 = some (8, 64) := by kernel_rfl
theorem zv_159 : zeroVs Try.prog 159 = some [V.sc (.bool false), V.sc (.int .i64 0), V.sc (.int .i64 0), V.sc (.int .i64 0), V.sc (.int .i64 0), V.sc (.int .i64 0), V.sc (.slice none 0 0), V.sc (.int .i64 0), V.sc (.int .i64 0)] := by kernel_rfl
theorem zt_159 : zeroT Try.prog 159 = some (.agg #[.bool false, .int .i64 0, .int .i64 0, .int .i64 0, .int .i64 0, .int .i64 0, .slice none 0 0, .int .i64 0, .int .i64 0]) := by kernel_rfl
theorem sz_160 : szT Try.prog 160 = some 9 := by kernel_rfl
theorem by_160 : byT Try.prog 160 = some 88 := by kernel_rfl
theorem ag_160 : aggT Try.prog 160 = true := by kernel_rfl
theorem kn_160 : knownT Try.prog 160 = true := by kernel_rfl
theorem it_160 : isIntT Try.prog 160 = false := by kernel_rfl
theorem pt_160 : isPtrT Try.prog 160 = false := by kernel_rfl
theorem pl_160 : placesT Try.prog 160 = some [(0, 7), (7, 1), (8, 1)] := by kernel_rfl
theorem sh_160 : shapeT Try.prog 160 = true := by kernel_rfl
theorem fo_160_0 : fieldOf Try.prog 160 0 = some (0, 154) := by kernel_rfl
theorem fo_160_1 : fieldOf Try.prog 160 1 = some (7, 3) := by kernel_rfl
theorem fo_160_2 : fieldOf Try.prog 160 2 = some (8, 64) := by kernel_rfl
theorem zv_160 : zeroVs Try.prog 160 = some [V.sc (.bool false), V.sc (.int .i64 0), V.sc (.int .i64 0), V.sc (.int .i64 0), V.sc (.int .i64 0), V.sc (.int .i64 0), V.sc (.slice none 0 0), V.sc (.int .i64 0), V.sc (.int .i64 0)] := by kernel_rfl
theorem zt_160 : zeroT Try.prog 160 = some (.agg #[.bool false, .int .i64 0, .int .i64 0, .int .i64 0, .int .i64 0, .int .i64 0, .slice none 0 0, .int .i64 0, .int .i64 0]) := by kernel_rfl
theorem sz_161 : szT Try.prog 161 = some 1 := by kernel_rfl
theorem by_161 : byT Try.prog 161 = some 8 := by kernel_rfl
theorem ag_161 : aggT Try.prog 161 = false := by kernel_rfl
theorem kn_161 : knownT Try.prog 161 = true := by kernel_rfl
theorem it_161 : isIntT Try.prog 161 = false := by kernel_rfl
theorem pt_161 : isPtrT Try.prog 161 = false := by kernel_rfl
theorem zv_161 : zeroVs Try.prog 161 = some [V.sc (.nilFunc)] := by kernel_rfl
theorem zt_161 : zeroT Try.prog 161 = some (.nilFunc) := by kernel_rfl
theorem sz_162 : szT Try.prog 162 = some 1 := by kernel_rfl
theorem by_162 : byT Try.prog 162 = some 8 := by kernel_rfl
theorem ag_162 : aggT Try.prog 162 = false := by kernel_rfl
theorem kn_162 : knownT Try.prog 162 = true := by kernel_rfl
theorem it_162 : isIntT Try.prog 162 = false := by kernel_rfl
theorem pt_162 : isPtrT Try.prog 162 = false := by kernel_rfl
theorem zv_162 : zeroVs Try.prog 162 = some [V.sc (.nilFunc)] := by kernel_rfl
theorem zt_162 : zeroT Try.prog 162 = some (.nilFunc) := by kernel_rfl
theorem sz_163 : szT Try.prog 163 = some 1 := by kernel_rfl
theorem by_163 : byT Try.prog 163 = some 24 := by kernel_rfl
theorem ag_163 : aggT Try.prog 163 = false := by kernel_rfl
theorem kn_163 : knownT Try.prog 163 = true := by kernel_rfl
theorem it_163 : isIntT Try.prog 163 = false := by kernel_rfl
theorem pt_163 : isPtrT Try.prog 163 = false := by kernel_rfl
theorem zv_163 : zeroVs Try.prog 163 = some [V.sc (.slice none 0 0)] := by kernel_rfl
theorem zt_163 : zeroT Try.prog 163 = some (.slice none 0 0) := by kernel_rfl
theorem sz_164 : szT Try.prog 164 = some 1 := by kernel_rfl
theorem by_164 : byT Try.prog 164 = some 8 := by kernel_rfl
theorem ag_164 : aggT Try.prog 164 = false := by kernel_rfl
theorem kn_164 : knownT Try.prog 164 = true := by kernel_rfl
theorem it_164 : isIntT Try.prog 164 = false := by kernel_rfl
theorem pt_164 : isPtrT Try.prog 164 = false := by kernel_rfl
theorem zv_164 : zeroVs Try.prog 164 = some [V.sc (.nilFunc)] := by kernel_rfl
theorem zt_164 : zeroT Try.prog 164 = some (.nilFunc) := by kernel_rfl
theorem sz_165 : szT Try.prog 165 = some 1 := by kernel_rfl
theorem by_165 : byT Try.prog 165 = some 8 := by kernel_rfl
theorem ag_165 : aggT Try.prog 165 = false := by kernel_rfl
theorem kn_165 : knownT Try.prog 165 = true := by kernel_rfl
theorem it_165 : isIntT Try.prog 165 = false := by kernel_rfl
theorem pt_165 : isPtrT Try.prog 165 = false := by kernel_rfl
theorem zv_165 : zeroVs Try.prog 165 = some [V.sc (.nilFunc)] := by kernel_rfl
theorem zt_165 : zeroT Try.prog 165 = some (.nilFunc) := by kernel_rfl
theorem sz_166 : szT Try.prog 166 = some 1 := by kernel_rfl
theorem by_166 : byT Try.prog 166 = some 8 := by kernel_rfl
theorem ag_166 : aggT Try.prog 166 = false := by kernel_rfl
theorem kn_166 : knownT Try.prog 166 = true := by kernel_rfl
theorem it_166 : isIntT Try.prog 166 = false := by kernel_rfl
theorem pt_166 : isPtrT Try.prog 166 = false := by kernel_rfl
theorem zv_166 : zeroVs Try.prog 166 = some [V.sc (.nilFunc)] := by kernel_rfl
theorem zt_166 : zeroT Try.prog 166 = some (.nilFunc) := by kernel_rfl
theorem sz_167 : szT Try.prog 167 = some 1 := by kernel_rfl
theorem by_167 : byT Try.prog 167 = some 8 := by kernel_rfl
theorem ag_167 : aggT Try.prog 167 = false := by kernel_rfl
theorem kn_167 : knownT Try.prog 167 = true := by kernel_rfl
theorem it_167 : isIntT Try.prog 167 = false := by kernel_rfl
theorem pt_167 : isPtrT Try.prog 167 = false := by kernel_rfl
theorem zv_167 : zeroVs Try.prog 167 = some [V.sc (.nilFunc)] := by kernel_rfl
theorem zt_167 : zeroT Try.prog 167 = some (.nilFunc) := by kernel_rfl
theorem sz_168 : szT Try.prog 168 = some 1 := by kernel_rfl
theorem by_168 : byT Try.prog 168 = some 8 := by kernel_rfl
theorem ag_168 : aggT Try.prog 168 = false := by kernel_rfl
theorem kn_168 : knownT Try.prog 168 = true := by kernel_rfl
theorem it_168 : isIntT Try.prog 168 = false := by kernel_rfl
theorem pt_168 : isPtrT Try.prog 168 = false := by kernel_rfl
theorem zv_168 : zeroVs Try.prog 168 = some [V.sc (.nilFunc)] := by kernel_rfl
theorem zt_168 : zeroT Try.prog 168 = some (.nilFunc) := by kernel_rfl
theorem sz_170 : szT Try.prog 170 = some 1 := by kernel_rfl
theorem by_170 : byT Try.prog 170 = some 8 := by kernel_rfl
theorem ag_170 : aggT Try.prog 170 = false := by kernel_rfl
theorem kn_170 : knownT Try.prog 170 = true := by kernel_rfl
theorem it_170 : isIntT Try.prog 170 = false := by kernel_rfl
theorem pt_170 : isPtrT Try.prog 170 = false := by kernel_rfl
theorem zv_170 : zeroVs Try.prog 170 = some [V.sc (.nilFunc)] := by kernel_rfl
theorem zt_170 : zeroT Try.prog 170 = some (.nilFunc) := by kernel_rfl
theorem sz_171 : szT Try.prog 171 = some 1 := by kernel_rfl
theorem by_171 : byT Try.prog 171 = some 8 := by kernel_rfl
theorem ag_171 : aggT Try.prog 171 = false := by kernel_rfl
theorem kn_171 : knownT Try.prog 171 = true := by kernel_rfl
theorem it_171 : isIntT Try.prog 171 = false := by kernel_rfl
theorem pt_171 : isPtrT Try.prog 171 = false := by kernel_rfl
theorem zv_171 : zeroVs Try.prog 171 = some [V.sc (.nilFunc)] := by kernel_rfl
theorem zt_171 : zeroT Try.prog 171 = some (.nilFunc) := by kernel_rfl
theorem sz_172 : szT Try.prog 172 = some 1 := by kernel_rfl
theorem by_172 : byT Try.prog 172 = some 8 := by kernel_rfl
theorem ag_172 : aggT Try.prog 172 = false := by kernel_rfl
theorem kn_172 : knownT Try.prog 172 = true := by kernel_rfl
theorem it_172 : isIntT Try.prog 172 = false := by kernel_rfl
theorem pt_172 : isPtrT Try.prog 172 = false := by kernel_rfl
theorem zv_172 : zeroVs Try.prog 172 = some [V.sc (.nilFunc)] := by kernel_rfl
theorem zt_172 : zeroT Try.prog 172 = some (.nilFunc) := by kernel_rfl
theorem sz_173 : szT Try.prog 173 = some 1 := by kernel_rfl
theorem by_173 : byT Try.prog 173 = some 8 := by kernel_rfl
theorem ag_173 : aggT Try.prog 173 = false := by kernel_rfl
theorem kn_173 : knownT Try.prog 173 = true := by kernel_rfl
theorem it_173 : isIntT Try.prog 173 = false := by kernel_rfl
theorem pt_173 : isPtrT Try.prog 173 = false := by kernel_rfl
theorem zv_173 : zeroVs Try.prog 173 = some [V.sc (.nilFunc)] := by kernel_rfl
theorem zt_173 : zeroT Try.prog 173 = some (.nilFunc) := by kernel_rfl
theorem sz_174 : szT Try.prog 174 = some 1 := by kernel_rfl
theorem by_174 : byT Try.prog 174 = some 8 := by kernel_rfl
theorem ag_174 : aggT Try.prog 174 = false := by kernel_rfl
theorem kn_174 : knownT Try.prog 174 = true := by kernel_rfl
theorem it_174 : isIntT Try.prog 174 = true := by kernel_rfl
theorem pt_174 : isPtrT Try.prog 174 = false := by kernel_rfl
theorem zv_174 : zeroVs Try.prog 174 = some [V.sc (.int .u64 0)] := by kernel_rfl
theorem zt_174 : zeroT Try.prog 174 = some (.int .u64 0) := by kernel_rfl
theorem sz_175 : szT Try.prog 175 = some 1 := by kernel_rfl
theorem by_175 : byT Try.prog 175 = some 8 := by kernel_rfl
theorem ag_175 : aggT Try.prog 175 = false := by kernel_rfl
theorem kn_175 : knownT Try.prog 175 = true := by kernel_rfl
theorem it_175 : isIntT Try.prog 175 = false := by kernel_rfl
theorem pt_175 : isPtrT Try.prog 175 = false := by kernel_rfl
theorem zv_175 : zeroVs Try.prog 175 = some [V.sc (.nilFunc)] := by kernel_rfl
theorem zt_175 : zeroT Try.prog 175 = some (.nilFunc) := by kernel_rfl
theorem sz_176 : szT Try.prog 176 = some 1 := by kernel_rfl
theorem by_176 : byT Try.prog 176 = some 8 := by kernel_rfl
theorem ag_176 : aggT Try.prog 176 = false := by kernel_rfl
theorem kn_176 : knownT Try.prog 176 = true := by kernel_rfl
theorem it_176 : isIntT Try.prog 176 = false := by kernel_rfl
theorem pt_176 : isPtrT Try.prog 176 = false := by kernel_rfl
theorem zv_176 : zeroVs Try.prog 176 = some [V.sc (.nilFunc)] := by kernel_rfl
theorem zt_176 : zeroT Try.prog 176 = some (.nilFunc) := by kernel_rfl
theorem sz_177 : szT Try.prog 177 = some 4 := by kernel_rfl
theorem by_177 : byT Try.prog 177 = some 40 := by kernel_rfl
theorem ag_177 : aggT Try.prog 177 = true := by kernel_rfl
theorem kn_177 : knownT Try.prog 177 = true := by kernel_rfl
theorem it_177 : isIntT Try.prog 177 = false := by kernel_rfl
theorem pt_177 : isPtrT Try.prog 177 = false := by kernel_rfl
theorem pl_177 : placesT Try.prog 177 = some [(0, 1), (1, 1), (2, 1), (3, 1)] := by kernel_rfl
theorem sh_177 : shapeT Try.prog 177 = true := by kernel_rfl
theorem fo_177_0 : fieldOf Try.prog 177 0 = some (0, 17) := by kernel_rfl
theorem fo_177_1 : fieldOf Try.prog 177 1 = some (1, 17) := by kernel_rfl
theorem fo_177_2 : fieldOf Try.prog 177 2 = some (2, 17) := by kernel_rfl
theorem fo_177_3 : fieldOf Try.prog 177 3 = some (3, 9) := by kernel_rfl
theorem zv_177 : zeroVs Try.prog 177 = some [V.sc (.pointer none), V.sc (.pointer none), V.sc (.pointer none), V.sc (.string ⟨#[]⟩)] := by kernel_rfl
theorem zt_177 : zeroT Try.prog 177 = some (.agg #[.pointer none, .pointer none, .pointer none, .string ⟨#[]⟩]) := by kernel_rfl
theorem sz_178 : szT Try.prog 178 = some 4 := by kernel_rfl
theorem by_178 : byT Try.prog 178 = some 40 := by kernel_rfl
theorem ag_178 : aggT Try.prog 178 = true := by kernel_rfl
theorem kn_178 : knownT Try.prog 178 = true := by kernel_rfl
theorem it_178 : isIntT Try.prog 178 = false := by kernel_rfl
theorem pt_178 : isPtrT Try.prog 178 = false := by kernel_rfl
theorem pl_178 : placesT Try.prog 178 = some [(0, 1), (1, 1), (2, 1), (3, 1)] := by kernel_rfl
theorem sh_178 : shapeT Try.prog 178 = true := by kernel_rfl
theorem fo_178_0 : fieldOf Try.prog 178 0 = some (0, 17) := by kernel_rfl
theorem fo_178_1 : fieldOf Try.prog 178 1 = some (1, 17) := by kernel_rfl
theorem fo_178_2 : fieldOf Try.prog 178 2 = some (2, 17) := by kernel_rfl
theorem fo_178_3 : fieldOf Try.prog 178 3 = some (3, 9) := by kernel_rfl
theorem zv_178 : zeroVs Try.prog 178 = some [V.sc (.pointer none), V.sc (.pointer none), V.sc (.pointer none), V.sc (.string ⟨#[]⟩)] := by kernel_rfl
theorem zt_178 : zeroT Try.prog 178 = some (.agg #[.pointer none, .pointer none, .pointer none, .string ⟨#[]⟩]) := by kernel_rfl
theorem sz_179 : szT Try.prog 179 = some 0 := by kernel_rfl
theorem by_179 : byT Try.prog 179 = some 0 := by kernel_rfl
theorem ag_179 : aggT Try.prog 179 = true := by kernel_rfl
theorem kn_179 : knownT Try.prog 179 = true := by kernel_rfl
theorem it_179 : isIntT Try.prog 179 = false := by kernel_rfl
theorem pt_179 : isPtrT Try.prog 179 = false := by kernel_rfl
theorem el_179 : elemT Try.prog 179 = some 1 := by kernel_rfl
theorem pl_179 : placesT Try.prog 179 = none := by kernel_rfl
theorem sh_179 : shapeT Try.prog 179 = true := by kernel_rfl
theorem zv_179 : zeroVs Try.prog 179 = some [] := by kernel_rfl
theorem zt_179 : zeroT Try.prog 179 = some (.agg #[]) := by kernel_rfl
theorem sz_180 : szT Try.prog 180 = some 0 := by kernel_rfl
theorem by_180 : byT Try.prog 180 = some 0 := by kernel_rfl
theorem ag_180 : aggT Try.prog 180 = true := by kernel_rfl
theorem kn_180 : knownT Try.prog 180 = true := by kernel_rfl
theorem it_180 : isIntT Try.prog 180 = false := by kernel_rfl
theorem pt_180 : isPtrT Try.prog 180 = false := by kernel_rfl
theorem pl_180 : placesT Try.prog 180 = some [(0, 0)] := by kernel_rfl
theorem sh_180 : shapeT Try.prog 180 = true := by kernel_rfl
theorem zv_180 : zeroVs Try.prog 180 = some [] := by kernel_rfl
theorem zt_180 : zeroT Try.prog 180 = some (.agg #[]) := by kernel_rfl
theorem sz_181 : szT Try.prog 181 = some 0 := by kernel_rfl
theorem by_181 : byT Try.prog 181 = some 0 := by kernel_rfl
theorem ag_181 : aggT Try.prog 181 = true := by kernel_rfl
theorem kn_181 : knownT Try.prog 181 = true := by kernel_rfl
theorem it_181 : isIntT Try.prog 181 = false := by kernel_rfl
theorem pt_181 : isPtrT Try.prog 181 = false := by kernel_rfl
theorem pl_181 : placesT Try.prog 181 = some [(0, 0)] := by kernel_rfl
theorem sh_181 : shapeT Try.prog 181 = true := by kernel_rfl
theorem zv_181 : zeroVs Try.prog 181 = some [] := by kernel_rfl
theorem zt_181 : zeroT Try.prog 181 = some (.agg #[]) := by kernel_rfl
theorem sz_182 : szT Try.prog 182 = some 1 := by kernel_rfl
theorem by_182 : byT Try.prog 182 = some 1 := by kernel_rfl
theorem ag_182 : aggT Try.prog 182 = false := by kernel_rfl
theorem kn_182 : knownT Try.prog 182 = true := by kernel_rfl
theorem it_182 : isIntT Try.prog 182 = true := by kernel_rfl
theorem pt_182 : isPtrT Try.prog 182 = false := by kernel_rfl
theorem zv_182 : zeroVs Try.prog 182 = some [V.sc (.int .u8 0)] := by kernel_rfl
theorem zt_182 : zeroT Try.prog 182 = some (.int .u8 0) := by kernel_rfl
theorem sz_183 : szT Try.prog 183 = some 1 := by kernel_rfl
theorem by_183 : byT Try.prog 183 = some 1 := by kernel_rfl
theorem ag_183 : aggT Try.prog 183 = false := by kernel_rfl
theorem kn_183 : knownT Try.prog 183 = true := by kernel_rfl
theorem it_183 : isIntT Try.prog 183 = true := by kernel_rfl
theorem pt_183 : isPtrT Try.prog 183 = false := by kernel_rfl
theorem zv_183 : zeroVs Try.prog 183 = some [V.sc (.int .u8 0)] := by kernel_rfl
theorem zt_183 : zeroT Try.prog 183 = some (.int .u8 0) := by kernel_rfl
theorem sz_184 : szT Try.prog 184 = some 1 := by kernel_rfl
theorem by_184 : byT Try.prog 184 = some 8 := by kernel_rfl
theorem ag_184 : aggT Try.prog 184 = false := by kernel_rfl
theorem kn_184 : knownT Try.prog 184 = true := by kernel_rfl
theorem it_184 : isIntT Try.prog 184 = false := by kernel_rfl
theorem pt_184 : isPtrT Try.prog 184 = false := by kernel_rfl
theorem zv_184 : zeroVs Try.prog 184 = some [V.sc (.nilFunc)] := by kernel_rfl
theorem zt_184 : zeroT Try.prog 184 = some (.nilFunc) := by kernel_rfl
theorem sz_185 : szT Try.prog 185 = some 1 := by kernel_rfl
theorem by_185 : byT Try.prog 185 = some 8 := by kernel_rfl
theorem ag_185 : aggT Try.prog 185 = false := by kernel_rfl
theorem kn_185 : knownT Try.prog 185 = true := by kernel_rfl
theorem it_185 : isIntT Try.prog 185 = false := by kernel_rfl
theorem pt_185 : isPtrT Try.prog 185 = true := by kernel_rfl
theorem zv_185 : zeroVs Try.prog 185 = some [V.sc (.pointer none)] := by kernel_rfl
theorem zt_185 : zeroT Try.prog 185 = some (.pointer none) := by kernel_rfl
theorem sz_186 : szT Try.prog 186 = some 1 := by kernel_rfl
theorem by_186 : byT Try.prog 186 = some 4 := by kernel_rfl
theorem ag_186 : aggT Try.prog 186 = false := by kernel_rfl
theorem kn_186 : knownT Try.prog 186 = true := by kernel_rfl
theorem it_186 : isIntT Try.prog 186 = true := by kernel_rfl
theorem pt_186 : isPtrT Try.prog 186 = false := by kernel_rfl
theorem zv_186 : zeroVs Try.prog 186 = some [V.sc (.int .i32 0)] := by kernel_rfl
theorem zt_186 : zeroT Try.prog 186 = some (.int .i32 0) := by kernel_rfl
theorem sz_187 : szT Try.prog 187 = some 1 := by kernel_rfl
theorem by_187 : byT Try.prog 187 = some 4 := by kernel_rfl
theorem ag_187 : aggT Try.prog 187 = false := by kernel_rfl
theorem kn_187 : knownT Try.prog 187 = true := by kernel_rfl
theorem it_187 : isIntT Try.prog 187 = true := by kernel_rfl
theorem pt_187 : isPtrT Try.prog 187 = false := by kernel_rfl
theorem zv_187 : zeroVs Try.prog 187 = some [V.sc (.int .i32 0)] := by kernel_rfl
theorem zt_187 : zeroT Try.prog 187 = some (.int .i32 0) := by kernel_rfl
theorem sz_188 : szT Try.prog 188 = some 11 := by kernel_rfl
theorem by_188 : byT Try.prog 188 = some 48 := by kernel_rfl
theorem ag_188 : aggT Try.prog 188 = true := by kernel_rfl
theorem kn_188 : knownT Try.prog 188 = true := by kernel_rfl
theorem it_188 : isIntT Try.prog 188 = false := by kernel_rfl
theorem pt_188 : isPtrT Try.prog 188 = false := by kernel_rfl
theorem pl_188 : placesT Try.prog 188 = some [(0, 1), (1, 1), (2, 1), (3, 1), (4, 1), (5, 1), (6, 1), (7, 1), (8, 1), (9, 1), (10, 1)] := by kernel_rfl
theorem sh_188 : shapeT Try.prog 188 = true := by kernel_rfl
theorem fo_188_0 : fieldOf Try.prog 188 0 = some (0, 12) := by kernel_rfl
theorem fo_188_1 : fieldOf Try.prog 188 1 = some (1, 12) := by kernel_rfl
theorem fo_188_2 : fieldOf Try.prog 188 2 = some (2, 32) := by kernel_rfl
theorem fo_188_3 : fieldOf Try.prog 188 3 = some (3, 182) := by kernel_rfl
theorem fo_188_4 : fieldOf Try.prog 188 4 = some (4, 5) := by kernel_rfl
theorem fo_188_5 : fieldOf Try.prog 188 5 = some (5, 5) := by kernel_rfl
theorem fo_188_6 : fieldOf Try.prog 188 6 = some (6, 183) := by kernel_rfl
theorem fo_188_7 : fieldOf Try.prog 188 7 = some (7, 184) := by kernel_rfl
theorem fo_188_8 : fieldOf Try.prog 188 8 = some (8, 185) := by kernel_rfl
theorem fo_188_9 : fieldOf Try.prog 188 9 = some (9, 186) := by kernel_rfl
theorem fo_188_10 : fieldOf Try.prog 188 10 = some (10, 187) := by kernel_rfl
theorem zv_188 : zeroVs Try.prog 188 = some [V.sc (.int .u64 0), V.sc (.int .u64 0), V.sc (.int .u32 0), V.sc (.int .u8 0), V.sc (.int .u8 0), V.sc (.int .u8 0), V.sc (.int .u8 0), V.sc (.nilFunc), V.sc (.pointer none), V.sc (.int .i32 0), V.sc (.int .i32 0)] := by kernel_rfl
theorem zt_188 : zeroT Try.prog 188 = some (.agg #[.int .u64 0, .int .u64 0, .int .u32 0, .int .u8 0, .int .u8 0, .int .u8 0, .int .u8 0, .nilFunc, .pointer none, .int .i32 0, .int .i32 0]) := by kernel_rfl
theorem sz_189 : szT Try.prog 189 = some 11 := by kernel_rfl
theorem by_189 : byT Try.prog 189 = some 48 := by kernel_rfl
theorem ag_189 : aggT Try.prog 189 = true := by kernel_rfl
theorem kn_189 : knownT Try.prog 189 = true := by kernel_rfl
theorem it_189 : isIntT Try.prog 189 = false := by kernel_rfl
theorem pt_189 : isPtrT Try.prog 189 = false := by kernel_rfl
theorem pl_189 : placesT Try.prog 189 = some [(0, 1), (1, 1), (2, 1), (3, 1), (4, 1), (5, 1), (6, 1), (7, 1), (8, 1), (9, 1), (10, 1)] := by kernel_rfl
theorem sh_189 : shapeT Try.prog 189 = true := by kernel_rfl
theorem fo_189_0 : fieldOf Try.prog 189 0 = some (0, 12) := by kernel_rfl
theorem fo_189_1 : fieldOf Try.prog 189 1 = some (1, 12) := by kernel_rfl
theorem fo_189_2 : fieldOf Try.prog 189 2 = some (2, 32) := by kernel_rfl
theorem fo_189_3 : fieldOf Try.prog 189 3 = some (3, 182) := by kernel_rfl
theorem fo_189_4 : fieldOf Try.prog 189 4 = some (4, 5) := by kernel_rfl
theorem fo_189_5 : fieldOf Try.prog 189 5 = some (5, 5) := by kernel_rfl
theorem fo_189_6 : fieldOf Try.prog 189 6 = some (6, 183) := by kernel_rfl
theorem fo_189_7 : fieldOf Try.prog 189 7 = some (7, 184) := by kernel_rfl
theorem fo_189_8 : fieldOf Try.prog 189 8 = some (8, 185) := by kernel_rfl
theorem fo_189_9 : fieldOf Try.prog 189 9 = some (9, 186) := by kernel_rfl
theorem fo_189_10 : fieldOf Try.prog 189 10 = some (10, 187) := by kernel_rfl
theorem zv_189 : zeroVs Try.prog 189 = some [V.sc (.int .u64 0), V.sc (.int .u64 0), V.sc (.int .u32 0), V.sc (.int .u8 0), V.sc (.int .u8 0), V.sc (.int .u8 0), V.sc (.int .u8 0), V.sc (.nilFunc), V.sc (.pointer none), V.sc (.int .i32 0), V.sc (.int .i32 0)] := by kernel_rfl
theorem zt_189 : zeroT Try.prog 189 = some (.agg #[.int .u64 0, .int .u64 0, .int .u32 0, .int .u8 0, .int .u8 0, .int .u8 0, .int .u8 0, .nilFunc, .pointer none, .int .i32 0, .int .i32 0]) := by kernel_rfl
theorem sz_190 : szT Try.prog 190 = some 1 := by kernel_rfl
theorem by_190 : byT Try.prog 190 = some 8 := by kernel_rfl
theorem ag_190 : aggT Try.prog 190 = false := by kernel_rfl
theorem kn_190 : knownT Try.prog 190 = true := by kernel_rfl
theorem it_190 : isIntT Try.prog 190 = false := by kernel_rfl
theorem pt_190 : isPtrT Try.prog 190 = false := by kernel_rfl
theorem zv_190 : zeroVs Try.prog 190 = some [V.sc (.pointer none)] := by kernel_rfl
theorem zt_190 : zeroT Try.prog 190 = some (.pointer none) := by kernel_rfl
attribute [go_sem] sz_1 by_1 ag_1 kn_1 it_1 pt_1 zv_1 zt_1 sz_2 by_2 ag_2 kn_2
  it_2 pt_2 zv_2 zt_2 sz_3 by_3 ag_3 kn_3 it_3 pt_3 zv_3 zt_3
  sz_4 by_4 ag_4 kn_4 it_4 pt_4 zv_4 zt_4 sz_5 by_5 ag_5 kn_5
  it_5 pt_5 zv_5 zt_5 sz_6 by_6 ag_6 kn_6 it_6 pt_6 zv_6 zt_6
  sz_7 by_7 ag_7 kn_7 it_7 pt_7 pl_7 sh_7 fo_7_0 fo_7_1 fo_7_2 fo_7_3
  zv_7 zt_7 sz_8 by_8 ag_8 kn_8 it_8 pt_8 pl_8 sh_8 fo_8_0 fo_8_1
  fo_8_2 fo_8_3 zv_8 zt_8 sz_9 by_9 ag_9 kn_9 it_9 pt_9 zv_9 zt_9
  sz_10 by_10 ag_10 kn_10 it_10 pt_10 zv_10 zt_10 sz_11 by_11 ag_11 kn_11
  it_11 pt_11 zv_11 zt_11 sz_12 by_12 ag_12 kn_12 it_12 pt_12 zv_12 zt_12
  sz_13 by_13 ag_13 kn_13 it_13 pt_13 pl_13 sh_13 fo_13_0 fo_13_1 zv_13 zt_13
  sz_14 by_14 ag_14 kn_14 it_14 pt_14 pl_14 sh_14 fo_14_0 fo_14_1 zv_14 zt_14
  sz_15 by_15 ag_15 kn_15 it_15 pt_15 zv_15 zt_15 sz_16 by_16 ag_16 kn_16
  it_16 pt_16 zv_16 zt_16 sz_17 by_17 ag_17 kn_17 it_17 pt_17 zv_17 zt_17
  sz_18 by_18 ag_18 kn_18 it_18 pt_18 pl_18 sh_18 fo_18_0 zv_18 zt_18 sz_19
  by_19 ag_19 kn_19 it_19 pt_19 pl_19 sh_19 fo_19_0 zv_19 zt_19 sz_20 by_20
  ag_20 kn_20 it_20 pt_20 zv_20 zt_20 sz_21 by_21 ag_21 kn_21 it_21 pt_21
  zv_21 zt_21 sz_22 by_22 ag_22 kn_22 it_22 pt_22 zv_22 zt_22 sz_23 by_23
  ag_23 kn_23 it_23 pt_23 zv_23 zt_23 sz_24 by_24 ag_24 kn_24 it_24 pt_24
  zv_24 zt_24 sz_25 by_25 ag_25 kn_25 it_25 pt_25 zv_25 zt_25 sz_26 by_26
  ag_26 kn_26 it_26 pt_26 zv_26 zt_26 sz_27 by_27 ag_27 kn_27 it_27 pt_27
  zv_27 zt_27 sz_28 by_28 ag_28 kn_28 it_28 pt_28 zv_28 zt_28 sz_29 by_29
  ag_29 kn_29 it_29 pt_29 zv_29 zt_29 sz_30 by_30 ag_30 kn_30 it_30 pt_30
  pl_30 sh_30 fo_30_0 fo_30_1 zv_30 zt_30 sz_31 by_31 ag_31 kn_31 it_31 pt_31
  pl_31 sh_31 fo_31_0 fo_31_1 zv_31 zt_31 sz_32 by_32 ag_32 kn_32 it_32 pt_32
  zv_32 zt_32 sz_33 by_33 ag_33 kn_33 it_33 pt_33 zv_33 zt_33 sz_34 by_34
  ag_34 kn_34 it_34 pt_34 pl_34 sh_34 fo_34_0 fo_34_1 zv_34 zt_34 sz_35 by_35
  ag_35 kn_35 it_35 pt_35 pl_35 sh_35 fo_35_0 fo_35_1 zv_35 zt_35 sz_36 by_36
  ag_36 kn_36 it_36 pt_36 pl_36 sh_36 fo_36_0 fo_36_1 fo_36_2 fo_36_3 fo_36_4 zv_36
  zt_36 sz_37 by_37 ag_37 kn_37 it_37 pt_37 pl_37 sh_37 fo_37_0 fo_37_1 fo_37_2
  fo_37_3 fo_37_4 zv_37 zt_37 sz_38 by_38 ag_38 kn_38 it_38 pt_38 zv_38 zt_38
  sz_39 by_39 ag_39 kn_39 it_39 pt_39 zv_39 zt_39 sz_40 by_40 ag_40 kn_40
  it_40 pt_40 pl_40 sh_40 fo_40_0 fo_40_1 zv_40 zt_40 sz_42 by_42 ag_42 kn_42
  it_42 pt_42 zv_42 zt_42 sz_44 by_44 ag_44 kn_44 it_44 pt_44 zv_44 zt_44
  sz_45 by_45 ag_45 kn_45 it_45 pt_45 zv_45 zt_45 sz_46 by_46 ag_46 kn_46
  it_46 pt_46 zv_46 zt_46 sz_47 by_47 ag_47 kn_47 it_47 pt_47 zv_47 zt_47
  sz_48 by_48 ag_48 kn_48 it_48 pt_48 zv_48 zt_48 sz_49 by_49 ag_49 kn_49
  it_49 pt_49 zv_49 zt_49 sz_50 by_50 ag_50 kn_50 it_50 pt_50 zv_50 zt_50
  sz_51 by_51 ag_51 kn_51 it_51 pt_51 zv_51 zt_51 sz_52 by_52 ag_52 kn_52
  it_52 pt_52 zv_52 zt_52 sz_53 by_53 ag_53 kn_53 it_53 pt_53 zv_53 zt_53
  sz_54 by_54 ag_54 kn_54 it_54 pt_54 zv_54 zt_54 sz_55 by_55 ag_55 kn_55
  it_55 pt_55 zv_55 zt_55 sz_56 by_56 ag_56 kn_56 it_56 pt_56 zv_56 zt_56
  sz_57 by_57 ag_57 kn_57 it_57 pt_57 zv_57 zt_57 sz_58 by_58 ag_58 kn_58
  it_58 pt_58 zv_58 zt_58 sz_59 by_59 ag_59 kn_59 it_59 pt_59 zv_59 zt_59
  sz_60 by_60 ag_60 kn_60 it_60 pt_60 pl_60 sh_60 fo_60_0 fo_60_1 fo_60_2 zv_60
  zt_60 sz_61 by_61 ag_61 kn_61 it_61 pt_61 pl_61 sh_61 fo_61_0 fo_61_1 fo_61_2
  zv_61 zt_61 sz_62 by_62 ag_62 kn_62 it_62 pt_62 pl_62 sh_62 fo_62_0 fo_62_1
  fo_62_2 zv_62 zt_62 sz_63 by_63 ag_63 kn_63 it_63 pt_63 pl_63 sh_63 fo_63_0
  fo_63_1 fo_63_2 zv_63 zt_63 sz_64 by_64 ag_64 kn_64 it_64 pt_64 zv_64 zt_64
  sz_66 by_66 ag_66 kn_66 it_66 pt_66 zv_66 zt_66 sz_67 by_67 ag_67 kn_67
  it_67 pt_67 zv_67 zt_67 sz_69 by_69 ag_69 kn_69 it_69 pt_69 zv_69 zt_69
  sz_70 by_70 ag_70 kn_70 it_70 pt_70 zv_70 zt_70 sz_71 by_71 ag_71 kn_71
  it_71 pt_71 zv_71 zt_71 sz_72 by_72 ag_72 kn_72 it_72 pt_72 zv_72 zt_72
  sz_73 by_73 ag_73 kn_73 it_73 pt_73 zv_73 zt_73 sz_74 by_74 ag_74 kn_74
  it_74 pt_74 zv_74 zt_74 sz_75 by_75 ag_75 kn_75 it_75 pt_75 zv_75 zt_75
  sz_76 by_76 ag_76 kn_76 it_76 pt_76 zv_76 zt_76 sz_77 by_77 ag_77 kn_77
  it_77 pt_77 el_77 pl_77 sh_77 zv_77 zt_77 sz_78 by_78 ag_78 kn_78 it_78
  pt_78 el_78 pl_78 sh_78 zv_78 zt_78 sz_79 by_79 ag_79 kn_79 it_79 pt_79
  zv_79 zt_79 sz_80 by_80 ag_80 kn_80 it_80 pt_80 pl_80 sh_80 fo_80_0 fo_80_1
  fo_80_2 fo_80_3 zv_80 zt_80 sz_81 by_81 ag_81 kn_81 it_81 pt_81 pl_81 sh_81
  fo_81_0 fo_81_1 fo_81_2 fo_81_3 zv_81 zt_81 sz_82 by_82 ag_82 kn_82 it_82 pt_82
  pl_82 sh_82 fo_82_0 fo_82_1 fo_82_2 zv_82 zt_82 sz_83 by_83 ag_83 kn_83 it_83
  pt_83 pl_83 sh_83 fo_83_0 fo_83_1 fo_83_2 zv_83 zt_83 sz_84 by_84 ag_84 kn_84
  it_84 pt_84 zv_84 zt_84 sz_85 by_85 ag_85 kn_85 it_85 pt_85 zv_85 zt_85
  sz_87 by_87 ag_87 kn_87 it_87 pt_87 zv_87 zt_87 sz_88 by_88 ag_88 kn_88
  it_88 pt_88 zv_88 zt_88 sz_89 by_89 ag_89 kn_89 it_89 pt_89 zv_89 zt_89
  sz_90 by_90 ag_90 kn_90 it_90 pt_90 zv_90 zt_90 sz_91 by_91 ag_91 kn_91
  it_91 pt_91 zv_91 zt_91 sz_92 by_92 ag_92 kn_92 it_92 pt_92 pl_92 sh_92
  fo_92_0 fo_92_1 zv_92 zt_92 sz_93 by_93 ag_93 kn_93 it_93 pt_93 pl_93 sh_93
  fo_93_0 fo_93_1 zv_93 zt_93 sz_94 by_94 ag_94 kn_94 it_94 pt_94 zv_94 zt_94
  sz_95 by_95 ag_95 kn_95 it_95 pt_95 zv_95 zt_95 sz_96 by_96 ag_96 kn_96
  it_96 pt_96 zv_96 zt_96 sz_97 by_97 ag_97 kn_97 it_97 pt_97 zv_97 zt_97
  sz_98 by_98 ag_98 kn_98 it_98 pt_98 zv_98 zt_98 sz_99 by_99 ag_99 kn_99
  it_99 pt_99 zv_99 zt_99 sz_100 by_100 ag_100 kn_100 it_100 pt_100 zv_100 zt_100
  sz_101 by_101 ag_101 kn_101 it_101 pt_101 zv_101 zt_101 sz_103 by_103 ag_103 kn_103
  it_103 pt_103 zv_103 zt_103 sz_105 by_105 ag_105 kn_105 it_105 pt_105 zv_105 zt_105
  sz_106 by_106 ag_106 kn_106 it_106 pt_106 zv_106 zt_106 sz_108 by_108 ag_108 kn_108
  it_108 pt_108 zv_108 zt_108 sz_109 by_109 ag_109 kn_109 it_109 pt_109 zv_109 zt_109
  sz_110 by_110 ag_110 kn_110 it_110 pt_110 zv_110 zt_110 sz_111 by_111 ag_111 kn_111
  it_111 pt_111 zv_111 zt_111 sz_112 by_112 ag_112 kn_112 it_112 pt_112 zv_112 zt_112
  sz_113 by_113 ag_113 kn_113 it_113 pt_113 zv_113 zt_113 sz_114 by_114 ag_114 kn_114
  it_114 pt_114 pl_114 sh_114 fo_114_0 fo_114_1 zv_114 zt_114 sz_115 by_115 ag_115 kn_115
  it_115 pt_115 pl_115 sh_115 fo_115_0 fo_115_1 zv_115 zt_115 sz_116 by_116 ag_116 kn_116
  it_116 pt_116 el_116 pl_116 sh_116 sz_117 by_117 ag_117 kn_117 it_117 pt_117 pl_117
  sh_117 fo_117_0 fo_117_1 sz_118 by_118 ag_118 kn_118 it_118 pt_118 pl_118 sh_118 fo_118_0
  fo_118_1 sz_119 by_119 ag_119 kn_119 it_119 pt_119 zv_119 zt_119 sz_120 by_120 ag_120
  kn_120 it_120 pt_120 zv_120 zt_120 sz_121 by_121 ag_121 kn_121 it_121 pt_121 zv_121
  zt_121 sz_122 by_122 ag_122 kn_122 it_122 pt_122 zv_122 zt_122 sz_123 by_123 ag_123
  kn_123 it_123 pt_123 zv_123 zt_123 sz_124 by_124 ag_124 kn_124 it_124 pt_124 zv_124
  zt_124 sz_125 by_125 ag_125 kn_125 it_125 pt_125 zv_125 zt_125 sz_126 by_126 ag_126
  kn_126 it_126 pt_126 pl_126 sh_126 fo_126_0 fo_126_1 fo_126_2 zv_126 zt_126 sz_127 by_127
  ag_127 kn_127 it_127 pt_127 pl_127 sh_127 fo_127_0 fo_127_1 fo_127_2 zv_127 zt_127 sz_128
  by_128 ag_128 kn_128 it_128 pt_128 zv_128 zt_128 sz_129 by_129 ag_129 kn_129 it_129
  pt_129 zv_129 zt_129 sz_130 by_130 ag_130 kn_130 it_130 pt_130 zv_130 zt_130 sz_131
  by_131 ag_131 kn_131 it_131 pt_131 zv_131 zt_131 sz_133 by_133 ag_133 kn_133 it_133
  pt_133 zv_133 zt_133 sz_134 by_134 ag_134 kn_134 it_134 pt_134 zv_134 zt_134 sz_136
  by_136 ag_136 kn_136 it_136 pt_136 zv_136 zt_136 sz_137 by_137 ag_137 kn_137 it_137
  pt_137 pl_137 sh_137 fo_137_0 fo_137_1 fo_137_2 zv_137 zt_137 sz_138 by_138 ag_138 kn_138
  it_138 pt_138 pl_138 sh_138 fo_138_0 fo_138_1 fo_138_2 zv_138 zt_138 sz_139 by_139 ag_139
  kn_139 it_139 pt_139 zv_139 zt_139 sz_140 by_140 ag_140 kn_140 it_140 pt_140 pl_140
  sh_140 fo_140_0 fo_140_1 zv_140 zt_140 sz_141 by_141 ag_141 kn_141 it_141 pt_141 pl_141
  sh_141 fo_141_0 fo_141_1 zv_141 zt_141 sz_142 by_142 ag_142 kn_142 it_142 pt_142 zv_142
  zt_142 sz_143 by_143 ag_143 kn_143 it_143 pt_143 zv_143 zt_143 sz_144 by_144 ag_144
  kn_144 it_144 pt_144 zv_144 zt_144 sz_145 by_145 ag_145 kn_145 it_145 pt_145 zv_145
  zt_145 sz_146 by_146 ag_146 kn_146 it_146 pt_146 zv_146 zt_146 sz_147 by_147 ag_147
  kn_147 it_147 pt_147 pl_147 sh_147 fo_147_0 fo_147_1 fo_147_2 zv_147 zt_147 sz_148 by_148
  ag_148 kn_148 it_148 pt_148 pl_148 sh_148 fo_148_0 fo_148_1 fo_148_2 zv_148 zt_148 sz_149
  by_149 ag_149 kn_149 it_149 pt_149 zv_149 zt_149 sz_151 by_151 ag_151 kn_151 it_151
  pt_151 zv_151 zt_151 sz_152 by_152 ag_152 kn_152 it_152 pt_152 zv_152 zt_152 sz_153
  by_153 ag_153 kn_153 it_153 pt_153 pl_153 sh_153 fo_153_0 fo_153_1 zv_153 zt_153 sz_154
  by_154 ag_154 kn_154 it_154 pt_154 pl_154 sh_154 fo_154_0 fo_154_1 zv_154 zt_154 sz_155
  by_155 ag_155 kn_155 it_155 pt_155 pl_155 sh_155 fo_155_0 fo_155_1 zv_155 zt_155 sz_156
  by_156 ag_156 kn_156 it_156 pt_156 zv_156 zt_156 sz_157 by_157 ag_157 kn_157 it_157
  pt_157 zv_157 zt_157 sz_158 by_158 ag_158 kn_158 it_158 pt_158 zv_158 zt_158 sz_159
  by_159 ag_159 kn_159 it_159 pt_159 pl_159 sh_159 fo_159_0 fo_159_1 fo_159_2 zv_159 zt_159
  sz_160 by_160 ag_160 kn_160 it_160 pt_160 pl_160 sh_160 fo_160_0 fo_160_1 fo_160_2 zv_160
  zt_160 sz_161 by_161 ag_161 kn_161 it_161 pt_161 zv_161 zt_161 sz_162 by_162 ag_162
  kn_162 it_162 pt_162 zv_162 zt_162 sz_163 by_163 ag_163 kn_163 it_163 pt_163 zv_163
  zt_163 sz_164 by_164 ag_164 kn_164 it_164 pt_164 zv_164 zt_164 sz_165 by_165 ag_165
  kn_165 it_165 pt_165 zv_165 zt_165 sz_166 by_166 ag_166 kn_166 it_166 pt_166 zv_166
  zt_166 sz_167 by_167 ag_167 kn_167 it_167 pt_167 zv_167 zt_167 sz_168 by_168 ag_168
  kn_168 it_168 pt_168 zv_168 zt_168 sz_170 by_170 ag_170 kn_170 it_170 pt_170 zv_170
  zt_170 sz_171 by_171 ag_171 kn_171 it_171 pt_171 zv_171 zt_171 sz_172 by_172 ag_172
  kn_172 it_172 pt_172 zv_172 zt_172 sz_173 by_173 ag_173 kn_173 it_173 pt_173 zv_173
  zt_173 sz_174 by_174 ag_174 kn_174 it_174 pt_174 zv_174 zt_174 sz_175 by_175 ag_175
  kn_175 it_175 pt_175 zv_175 zt_175 sz_176 by_176 ag_176 kn_176 it_176 pt_176 zv_176
  zt_176 sz_177 by_177 ag_177 kn_177 it_177 pt_177 pl_177 sh_177 fo_177_0 fo_177_1 fo_177_2
  fo_177_3 zv_177 zt_177 sz_178 by_178 ag_178 kn_178 it_178 pt_178 pl_178 sh_178 fo_178_0
  fo_178_1 fo_178_2 fo_178_3 zv_178 zt_178 sz_179 by_179 ag_179 kn_179 it_179 pt_179 el_179
  pl_179 sh_179 zv_179 zt_179 sz_180 by_180 ag_180 kn_180 it_180 pt_180 pl_180 sh_180
  zv_180 zt_180 sz_181 by_181 ag_181 kn_181 it_181 pt_181 pl_181 sh_181 zv_181 zt_181
  sz_182 by_182 ag_182 kn_182 it_182 pt_182 zv_182 zt_182 sz_183 by_183 ag_183 kn_183
  it_183 pt_183 zv_183 zt_183 sz_184 by_184 ag_184 kn_184 it_184 pt_184 zv_184 zt_184
  sz_185 by_185 ag_185 kn_185 it_185 pt_185 zv_185 zt_185 sz_186 by_186 ag_186 kn_186
  it_186 pt_186 zv_186 zt_186 sz_187 by_187 ag_187 kn_187 it_187 pt_187 zv_187 zt_187
  sz_188 by_188 ag_188 kn_188 it_188 pt_188 pl_188 sh_188 fo_188_0 fo_188_1 fo_188_2 fo_188_3
  fo_188_4 fo_188_5 fo_188_6 fo_188_7 fo_188_8 fo_188_9 fo_188_10 zv_188 zt_188 sz_189 by_189 ag_189
  kn_189 it_189 pt_189 pl_189 sh_189 fo_189_0 fo_189_1 fo_189_2 fo_189_3 fo_189_4 fo_189_5 fo_189_6
  fo_189_7 fo_189_8 fo_189_9 fo_189_10 zv_189 zt_189 sz_190 by_190 ag_190 kn_190 it_190 pt_190
  zv_190 zt_190 Try.underlying0 Try.underlying1 Try.underlying2 Try.underlying3 Try.underlying4 Try.underlying5 Try.underlying6 Try.underlying7 Try.underlying8 Try.underlying9
  Try.underlying10 Try.underlying11 Try.underlying12 Try.underlying13 Try.underlying14 Try.underlying15 Try.underlying16 Try.underlying17 Try.underlying18 Try.underlying19 Try.underlying20 Try.underlying21
  Try.underlying22 Try.underlying23 Try.underlying24 Try.underlying25 Try.underlying26 Try.underlying27 Try.underlying28 Try.underlying29 Try.underlying30 Try.underlying31 Try.underlying32 Try.underlying33
  Try.underlying34 Try.underlying35 Try.underlying36 Try.underlying37 Try.underlying38 Try.underlying39 Try.underlying40 Try.underlying41 Try.underlying42 Try.underlying43 Try.underlying44 Try.underlying45
  Try.underlying46 Try.underlying47 Try.underlying48 Try.underlying49 Try.underlying50 Try.underlying51 Try.underlying52 Try.underlying53 Try.underlying54 Try.underlying55 Try.underlying56 Try.underlying57
  Try.underlying58 Try.underlying59 Try.underlying60 Try.underlying61 Try.underlying62 Try.underlying63 Try.underlying64 Try.underlying65 Try.underlying66 Try.underlying67 Try.underlying68 Try.underlying69
  Try.underlying70 Try.underlying71 Try.underlying72 Try.underlying73 Try.underlying74 Try.underlying75 Try.underlying76 Try.underlying77 Try.underlying78 Try.underlying79 Try.underlying80 Try.underlying81
  Try.underlying82 Try.underlying83 Try.underlying84 Try.underlying85 Try.underlying86 Try.underlying87 Try.underlying88 Try.underlying89 Try.underlying90 Try.underlying91 Try.underlying92 Try.underlying93
  Try.underlying94 Try.underlying95 Try.underlying96 Try.underlying97 Try.underlying98 Try.underlying99 Try.underlying100 Try.underlying101 Try.underlying102 Try.underlying103 Try.underlying104 Try.underlying105
  Try.underlying106 Try.underlying107 Try.underlying108 Try.underlying109 Try.underlying110 Try.underlying111 Try.underlying112 Try.underlying113 Try.underlying114 Try.underlying115 Try.underlying116 Try.underlying117
  Try.underlying118 Try.underlying119 Try.underlying120 Try.underlying121 Try.underlying122 Try.underlying123 Try.underlying124 Try.underlying125 Try.underlying126 Try.underlying127 Try.underlying128 Try.underlying129
  Try.underlying130 Try.underlying131 Try.underlying132 Try.underlying133 Try.underlying134 Try.underlying135 Try.underlying136 Try.underlying137 Try.underlying138 Try.underlying139 Try.underlying140 Try.underlying141
  Try.underlying142 Try.underlying143 Try.underlying144 Try.underlying145 Try.underlying146 Try.underlying147 Try.underlying148 Try.underlying149 Try.underlying150 Try.underlying151 Try.underlying152 Try.underlying153
  Try.underlying154 Try.underlying155 Try.underlying156 Try.underlying157 Try.underlying158 Try.underlying159 Try.underlying160 Try.underlying161 Try.underlying162 Try.underlying163 Try.underlying164 Try.underlying165
  Try.underlying166 Try.underlying167 Try.underlying168 Try.underlying169 Try.underlying170 Try.underlying171 Try.underlying172 Try.underlying173 Try.underlying174 Try.underlying175 Try.underlying176 Try.underlying177
  Try.underlying178 Try.underlying179 Try.underlying180 Try.underlying181 Try.underlying182 Try.underlying183 Try.underlying184 Try.underlying185 Try.underlying186 Try.underlying187 Try.underlying188 Try.underlying189
  Try.underlying190 Try.eqGuardType7 Try.eqGuardType8 Try.eqGuardType13 Try.eqGuardType14 Try.eqGuardType18 Try.eqGuardType19 Try.eqGuardType30 Try.eqGuardType31 Try.eqGuardType34 Try.eqGuardType35 Try.eqGuardType36
  Try.eqGuardType37 Try.eqGuardType40 Try.eqGuardType60 Try.eqGuardType61 Try.eqGuardType62 Try.eqGuardType63 Try.eqGuardType77 Try.eqGuardType78 Try.eqGuardType80 Try.eqGuardType81 Try.eqGuardType82 Try.eqGuardType83
  Try.eqGuardType92 Try.eqGuardType93 Try.eqGuardType114 Try.eqGuardType115 Try.eqGuardType116 Try.eqGuardType117 Try.eqGuardType118 Try.eqGuardType126 Try.eqGuardType127 Try.eqGuardType137 Try.eqGuardType138 Try.eqGuardType140
  Try.eqGuardType141 Try.eqGuardType147 Try.eqGuardType148 Try.eqGuardType153 Try.eqGuardType154 Try.eqGuardType155 Try.eqGuardType159 Try.eqGuardType160 Try.eqGuardType177 Try.eqGuardType178 Try.eqGuardType179 Try.eqGuardType180
  Try.eqGuardType181 Try.eqGuardType188 Try.eqGuardType189
end Go.Proofs.Ytonllhjmoenckaa
