/- What the walk over values asks of this program's types (printed by gen_types.py). -/
import Derived.Test.YtonllhjmoenckaaProg
import Derived.Test.YtonllhjmoenckaaVsZ
namespace Go.Proofs.Ytonllhjmoenckaa
open Go Go.RowKit
theorem sz_2 : szT Try.prog 2 = some 1 := by kernel_rfl
theorem by_2 : byT Try.prog 2 = some 8 := by kernel_rfl
theorem ag_2 : aggT Try.prog 2 = false := by kernel_rfl
theorem kn_2 : knownT Try.prog 2 = true := by kernel_rfl
theorem it_2 : isIntT Try.prog 2 = true := by kernel_rfl
theorem pt_2 : isPtrT Try.prog 2 = false := by kernel_rfl
theorem zv_2 : zeroVs Try.prog 2 = some [V.sc (.int .i64 0)] := by kernel_rfl
theorem zt_2 : zeroT Try.prog 2 = some (.int .i64 0) := by kernel_rfl
theorem sz_3 : szT Try.prog 3 = some 1 := by kernel_rfl
theorem by_3 : byT Try.prog 3 = some 8 := by kernel_rfl
theorem ag_3 : aggT Try.prog 3 = false := by kernel_rfl
theorem kn_3 : knownT Try.prog 3 = true := by kernel_rfl
theorem it_3 : isIntT Try.prog 3 = true := by kernel_rfl
theorem pt_3 : isPtrT Try.prog 3 = false := by kernel_rfl
theorem zv_3 : zeroVs Try.prog 3 = some [V.sc (.int .i64 0)] := by kernel_rfl
theorem zt_3 : zeroT Try.prog 3 = some (.int .i64 0) := by kernel_rfl
theorem sz_4 : szT Try.prog 4 = some 1 := by kernel_rfl
theorem by_4 : byT Try.prog 4 = some 1 := by kernel_rfl
theorem ag_4 : aggT Try.prog 4 = false := by kernel_rfl
theorem kn_4 : knownT Try.prog 4 = true := by kernel_rfl
theorem it_4 : isIntT Try.prog 4 = false := by kernel_rfl
theorem pt_4 : isPtrT Try.prog 4 = false := by kernel_rfl
theorem zv_4 : zeroVs Try.prog 4 = some [V.sc (.bool false)] := by kernel_rfl
theorem zt_4 : zeroT Try.prog 4 = some (.bool false) := by kernel_rfl
theorem sz_5 : szT Try.prog 5 = some 1 := by kernel_rfl
theorem by_5 : byT Try.prog 5 = some 1 := by kernel_rfl
theorem ag_5 : aggT Try.prog 5 = false := by kernel_rfl
theorem kn_5 : knownT Try.prog 5 = true := by kernel_rfl
theorem it_5 : isIntT Try.prog 5 = true := by kernel_rfl
theorem pt_5 : isPtrT Try.prog 5 = false := by kernel_rfl
theorem zv_5 : zeroVs Try.prog 5 = some [V.sc (.int .u8 0)] := by kernel_rfl
theorem zt_5 : zeroT Try.prog 5 = some (.int .u8 0) := by kernel_rfl
theorem sz_9 : szT Try.prog 9 = some 1 := by kernel_rfl
theorem by_9 : byT Try.prog 9 = some 16 := by kernel_rfl
theorem ag_9 : aggT Try.prog 9 = false := by kernel_rfl
theorem kn_9 : knownT Try.prog 9 = true := by kernel_rfl
theorem it_9 : isIntT Try.prog 9 = false := by kernel_rfl
theorem pt_9 : isPtrT Try.prog 9 = false := by kernel_rfl
theorem zv_9 : zeroVs Try.prog 9 = some [V.sc (.string ⟨#[]⟩)] := by kernel_rfl
theorem zt_9 : zeroT Try.prog 9 = some (.string ⟨#[]⟩) := by kernel_rfl
theorem sz_20 : szT Try.prog 20 = some 1 := by kernel_rfl
theorem by_20 : byT Try.prog 20 = some 16 := by kernel_rfl
theorem ag_20 : aggT Try.prog 20 = false := by kernel_rfl
theorem kn_20 : knownT Try.prog 20 = true := by kernel_rfl
theorem it_20 : isIntT Try.prog 20 = false := by kernel_rfl
theorem pt_20 : isPtrT Try.prog 20 = false := by kernel_rfl
theorem zv_20 : zeroVs Try.prog 20 = some [V.sc (.nilIface)] := by kernel_rfl
theorem zt_20 : zeroT Try.prog 20 = some (.nilIface) := by kernel_rfl
theorem sz_21 : szT Try.prog 21 = some 1 := by kernel_rfl
theorem by_21 : byT Try.prog 21 = some 4 := by kernel_rfl
theorem ag_21 : aggT Try.prog 21 = false := by kernel_rfl
theorem kn_21 : knownT Try.prog 21 = true := by kernel_rfl
theorem it_21 : isIntT Try.prog 21 = true := by kernel_rfl
theorem pt_21 : isPtrT Try.prog 21 = false := by kernel_rfl
theorem zv_21 : zeroVs Try.prog 21 = some [V.sc (.int .i32 0)] := by kernel_rfl
theorem zt_21 : zeroT Try.prog 21 = some (.int .i32 0) := by kernel_rfl
theorem sz_22 : szT Try.prog 22 = some 1 := by kernel_rfl
theorem by_22 : byT Try.prog 22 = some 24 := by kernel_rfl
theorem ag_22 : aggT Try.prog 22 = false := by kernel_rfl
theorem kn_22 : knownT Try.prog 22 = true := by kernel_rfl
theorem it_22 : isIntT Try.prog 22 = false := by kernel_rfl
theorem pt_22 : isPtrT Try.prog 22 = false := by kernel_rfl
theorem zv_22 : zeroVs Try.prog 22 = some [V.sc (.slice none 0 0)] := by kernel_rfl
theorem zt_22 : zeroT Try.prog 22 = some (.slice none 0 0) := by kernel_rfl
theorem sz_25 : szT Try.prog 25 = some 1 := by kernel_rfl
theorem by_25 : byT Try.prog 25 = some 8 := by kernel_rfl
theorem ag_25 : aggT Try.prog 25 = false := by kernel_rfl
theorem kn_25 : knownT Try.prog 25 = true := by kernel_rfl
theorem it_25 : isIntT Try.prog 25 = false := by kernel_rfl
theorem pt_25 : isPtrT Try.prog 25 = true := by kernel_rfl
theorem zv_25 : zeroVs Try.prog 25 = some [V.sc (.pointer none)] := by kernel_rfl
theorem zt_25 : zeroT Try.prog 25 = some (.pointer none) := by kernel_rfl
theorem sz_27 : szT Try.prog 27 = some 1 := by kernel_rfl
theorem by_27 : byT Try.prog 27 = some 8 := by kernel_rfl
theorem ag_27 : aggT Try.prog 27 = false := by kernel_rfl
theorem kn_27 : knownT Try.prog 27 = true := by kernel_rfl
theorem it_27 : isIntT Try.prog 27 = false := by kernel_rfl
theorem pt_27 : isPtrT Try.prog 27 = true := by kernel_rfl
theorem zv_27 : zeroVs Try.prog 27 = some [V.sc (.pointer none)] := by kernel_rfl
theorem zt_27 : zeroT Try.prog 27 = some (.pointer none) := by kernel_rfl
theorem sz_28 : szT Try.prog 28 = some 1 := by kernel_rfl
theorem by_28 : byT Try.prog 28 = some 24 := by kernel_rfl
theorem ag_28 : aggT Try.prog 28 = false := by kernel_rfl
theorem kn_28 : knownT Try.prog 28 = true := by kernel_rfl
theorem it_28 : isIntT Try.prog 28 = false := by kernel_rfl
theorem pt_28 : isPtrT Try.prog 28 = false := by kernel_rfl
theorem zv_28 : zeroVs Try.prog 28 = some [V.sc (.slice none 0 0)] := by kernel_rfl
theorem zt_28 : zeroT Try.prog 28 = some (.slice none 0 0) := by kernel_rfl
theorem sz_29 : szT Try.prog 29 = some 1 := by kernel_rfl
theorem by_29 : byT Try.prog 29 = some 24 := by kernel_rfl
theorem ag_29 : aggT Try.prog 29 = false := by kernel_rfl
theorem kn_29 : knownT Try.prog 29 = true := by kernel_rfl
theorem it_29 : isIntT Try.prog 29 = false := by kernel_rfl
theorem pt_29 : isPtrT Try.prog 29 = false := by kernel_rfl
theorem zv_29 : zeroVs Try.prog 29 = some [V.sc (.slice none 0 0)] := by kernel_rfl
theorem zt_29 : zeroT Try.prog 29 = some (.slice none 0 0) := by kernel_rfl
theorem sz_31 : szT Try.prog 31 = some 2 := by kernel_rfl
theorem by_31 : byT Try.prog 31 = some 48 := by kernel_rfl
theorem ag_31 : aggT Try.prog 31 = true := by kernel_rfl
theorem kn_31 : knownT Try.prog 31 = true := by kernel_rfl
theorem it_31 : isIntT Try.prog 31 = false := by kernel_rfl
theorem pt_31 : isPtrT Try.prog 31 = false := by kernel_rfl
theorem pl_31 : placesT Try.prog 31 = some [(0, 1), (1, 1)] := by kernel_rfl
theorem sh_31 : shapeT Try.prog 31 = true := by kernel_rfl
theorem fo_31_0 : fieldOf Try.prog 31 0 = some (0, 28) := by kernel_rfl
theorem fo_31_1 : fieldOf Try.prog 31 1 = some (1, 29) := by kernel_rfl
theorem zv_31 : zeroVs Try.prog 31 = some [V.sc (.slice none 0 0), V.sc (.slice none 0 0)] := by kernel_rfl
theorem zt_31 : zeroT Try.prog 31 = some (.agg #[.slice none 0 0, .slice none 0 0]) := by kernel_rfl
theorem sz_32 : szT Try.prog 32 = some 1 := by kernel_rfl
theorem by_32 : byT Try.prog 32 = some 4 := by kernel_rfl
theorem ag_32 : aggT Try.prog 32 = false := by kernel_rfl
theorem kn_32 : knownT Try.prog 32 = true := by kernel_rfl
theorem it_32 : isIntT Try.prog 32 = true := by kernel_rfl
theorem pt_32 : isPtrT Try.prog 32 = false := by kernel_rfl
theorem zv_32 : zeroVs Try.prog 32 = some [V.sc (.int .u32 0)] := by kernel_rfl
theorem zt_32 : zeroT Try.prog 32 = some (.int .u32 0) := by kernel_rfl
theorem sz_33 : szT Try.prog 33 = some 1 := by kernel_rfl
theorem by_33 : byT Try.prog 33 = some 24 := by kernel_rfl
theorem ag_33 : aggT Try.prog 33 = false := by kernel_rfl
theorem kn_33 : knownT Try.prog 33 = true := by kernel_rfl
theorem it_33 : isIntT Try.prog 33 = false := by kernel_rfl
theorem pt_33 : isPtrT Try.prog 33 = false := by kernel_rfl
theorem zv_33 : zeroVs Try.prog 33 = some [V.sc (.slice none 0 0)] := by kernel_rfl
theorem zt_33 : zeroT Try.prog 33 = some (.slice none 0 0) := by kernel_rfl
theorem sz_35 : szT Try.prog 35 = some 2 := by kernel_rfl
theorem by_35 : byT Try.prog 35 = some 32 := by kernel_rfl
theorem ag_35 : aggT Try.prog 35 = true := by kernel_rfl
theorem kn_35 : knownT Try.prog 35 = true := by kernel_rfl
theorem it_35 : isIntT Try.prog 35 = false := by kernel_rfl
theorem pt_35 : isPtrT Try.prog 35 = false := by kernel_rfl
theorem pl_35 : placesT Try.prog 35 = some [(0, 1), (1, 1)] := by kernel_rfl
theorem sh_35 : shapeT Try.prog 35 = true := by kernel_rfl
theorem fo_35_0 : fieldOf Try.prog 35 0 = some (0, 3) := by kernel_rfl
theorem fo_35_1 : fieldOf Try.prog 35 1 = some (1, 33) := by kernel_rfl
theorem zv_35 : zeroVs Try.prog 35 = some [V.sc (.int .i64 0), V.sc (.slice none 0 0)] := by kernel_rfl
theorem zt_35 : zeroT Try.prog 35 = some (.agg #[.int .i64 0, .slice none 0 0]) := by kernel_rfl
theorem sz_37 : szT Try.prog 37 = some 6 := by kernel_rfl
theorem by_37 : byT Try.prog 37 = some 64 := by kernel_rfl
theorem ag_37 : aggT Try.prog 37 = true := by kernel_rfl
theorem kn_37 : knownT Try.prog 37 = true := by kernel_rfl
theorem it_37 : isIntT Try.prog 37 = false := by kernel_rfl
theorem pt_37 : isPtrT Try.prog 37 = false := by kernel_rfl
theorem pl_37 : placesT Try.prog 37 = some [(0, 1), (1, 1), (2, 1), (3, 1), (4, 2)] := by kernel_rfl
theorem sh_37 : shapeT Try.prog 37 = true := by kernel_rfl
theorem fo_37_0 : fieldOf Try.prog 37 0 = some (0, 3) := by kernel_rfl
theorem fo_37_1 : fieldOf Try.prog 37 1 = some (1, 3) := by kernel_rfl
theorem fo_37_2 : fieldOf Try.prog 37 2 = some (2, 3) := by kernel_rfl
theorem fo_37_3 : fieldOf Try.prog 37 3 = some (3, 32) := by kernel_rfl
theorem fo_37_4 : fieldOf Try.prog 37 4 = some (4, 35) := by kernel_rfl
theorem zv_37 : zeroVs Try.prog 37 = some [V.sc (.int .i64 0), V.sc (.int .i64 0), V.sc (.int .i64 0), V.sc (.int .u32 0), V.sc (.int .i64 0), V.sc (.slice none 0 0)] := by kernel_rfl
theorem zt_37 : zeroT Try.prog 37 = some (.agg #[.int .i64 0, .int .i64 0, .int .i64 0, .int .u32 0, .int .i64 0, .slice none 0 0]) := by kernel_rfl
theorem sz_40 : szT Try.prog 40 = some 2 := by kernel_rfl
theorem by_40 : byT Try.prog 40 = some 32 := by kernel_rfl
theorem ag_40 : aggT Try.prog 40 = true := by kernel_rfl
theorem kn_40 : knownT Try.prog 40 = true := by kernel_rfl
theorem it_40 : isIntT Try.prog 40 = false := by kernel_rfl
theorem pt_40 : isPtrT Try.prog 40 = false := by kernel_rfl
theorem pl_40 : placesT Try.prog 40 = some [(0, 1), (1, 1)] := by kernel_rfl
theorem sh_40 : shapeT Try.prog 40 = true := by kernel_rfl
theorem fo_40_0 : fieldOf Try.prog 40 0 = some (0, 3) := by kernel_rfl
theorem fo_40_1 : fieldOf Try.prog 40 1 = some (1, 33) := by kernel_rfl
theorem zv_40 : zeroVs Try.prog 40 = some [V.sc (.int .i64 0), V.sc (.slice none 0 0)] := by kernel_rfl
theorem zt_40 : zeroT Try.prog 40 = some (.agg #[.int .i64 0, .slice none 0 0]) := by kernel_rfl
theorem sz_47 : szT Try.prog 47 = some 1 := by kernel_rfl
theorem by_47 : byT Try.prog 47 = some 24 := by kernel_rfl
theorem ag_47 : aggT Try.prog 47 = false := by kernel_rfl
theorem kn_47 : knownT Try.prog 47 = true := by kernel_rfl
theorem it_47 : isIntT Try.prog 47 = false := by kernel_rfl
theorem pt_47 : isPtrT Try.prog 47 = false := by kernel_rfl
theorem zv_47 : zeroVs Try.prog 47 = some [V.sc (.slice none 0 0)] := by kernel_rfl
theorem zt_47 : zeroT Try.prog 47 = some (.slice none 0 0) := by kernel_rfl
theorem sz_53 : szT Try.prog 53 = some 1 := by kernel_rfl
theorem by_53 : byT Try.prog 53 = some 24 := by kernel_rfl
theorem ag_53 : aggT Try.prog 53 = false := by kernel_rfl
theorem kn_53 : knownT Try.prog 53 = true := by kernel_rfl
theorem it_53 : isIntT Try.prog 53 = false := by kernel_rfl
theorem pt_53 : isPtrT Try.prog 53 = false := by kernel_rfl
theorem zv_53 : zeroVs Try.prog 53 = some [V.sc (.slice none 0 0)] := by kernel_rfl
theorem zt_53 : zeroT Try.prog 53 = some (.slice none 0 0) := by kernel_rfl
theorem sz_55 : szT Try.prog 55 = some 1 := by kernel_rfl
theorem by_55 : byT Try.prog 55 = some 8 := by kernel_rfl
theorem ag_55 : aggT Try.prog 55 = false := by kernel_rfl
theorem kn_55 : knownT Try.prog 55 = true := by kernel_rfl
theorem it_55 : isIntT Try.prog 55 = false := by kernel_rfl
theorem pt_55 : isPtrT Try.prog 55 = true := by kernel_rfl
theorem zv_55 : zeroVs Try.prog 55 = some [V.sc (.pointer none)] := by kernel_rfl
theorem zt_55 : zeroT Try.prog 55 = some (.pointer none) := by kernel_rfl
theorem sz_57 : szT Try.prog 57 = some 1 := by kernel_rfl
theorem by_57 : byT Try.prog 57 = some 8 := by kernel_rfl
theorem ag_57 : aggT Try.prog 57 = false := by kernel_rfl
theorem kn_57 : knownT Try.prog 57 = true := by kernel_rfl
theorem it_57 : isIntT Try.prog 57 = false := by kernel_rfl
theorem pt_57 : isPtrT Try.prog 57 = true := by kernel_rfl
theorem zv_57 : zeroVs Try.prog 57 = some [V.sc (.pointer none)] := by kernel_rfl
theorem zt_57 : zeroT Try.prog 57 = some (.pointer none) := by kernel_rfl
theorem sz_58 : szT Try.prog 58 = some 1 := by kernel_rfl
theorem by_58 : byT Try.prog 58 = some 24 := by kernel_rfl
theorem ag_58 : aggT Try.prog 58 = false := by kernel_rfl
theorem kn_58 : knownT Try.prog 58 = true := by kernel_rfl
theorem it_58 : isIntT Try.prog 58 = false := by kernel_rfl
theorem pt_58 : isPtrT Try.prog 58 = false := by kernel_rfl
theorem zv_58 : zeroVs Try.prog 58 = some [V.sc (.slice none 0 0)] := by kernel_rfl
theorem zt_58 : zeroT Try.prog 58 = some (.slice none 0 0) := by kernel_rfl
theorem sz_59 : szT Try.prog 59 = some 1 := by kernel_rfl
theorem by_59 : byT Try.prog 59 = some 24 := by kernel_rfl
theorem ag_59 : aggT Try.prog 59 = false := by kernel_rfl
theorem kn_59 : knownT Try.prog 59 = true := by kernel_rfl
theorem it_59 : isIntT Try.prog 59 = false := by kernel_rfl
theorem pt_59 : isPtrT Try.prog 59 = false := by kernel_rfl
theorem zv_59 : zeroVs Try.prog 59 = some [V.sc (.slice none 0 0)] := by kernel_rfl
theorem zt_59 : zeroT Try.prog 59 = some (.slice none 0 0) := by kernel_rfl
theorem sz_61 : szT Try.prog 61 = some 3 := by kernel_rfl
theorem by_61 : byT Try.prog 61 = some 56 := by kernel_rfl
theorem ag_61 : aggT Try.prog 61 = true := by kernel_rfl
theorem kn_61 : knownT Try.prog 61 = true := by kernel_rfl
theorem it_61 : isIntT Try.prog 61 = false := by kernel_rfl
theorem pt_61 : isPtrT Try.prog 61 = false := by kernel_rfl
theorem pl_61 : placesT Try.prog 61 = some [(0, 1), (1, 1), (2, 1)] := by kernel_rfl
theorem sh_61 : shapeT Try.prog 61 = true := by kernel_rfl
theorem fo_61_0 : fieldOf Try.prog 61 0 = some (0, 58) := by kernel_rfl
theorem fo_61_1 : fieldOf Try.prog 61 1 = some (1, 59) := by kernel_rfl
theorem fo_61_2 : fieldOf Try.prog 61 2 = some (2, 3) := by kernel_rfl
theorem zv_61 : zeroVs Try.prog 61 = some [V.sc (.slice none 0 0), V.sc (.slice none 0 0), V.sc (.int .i64 0)] := by kernel_rfl
theorem zt_61 : zeroT Try.prog 61 = some (.agg #[.slice none 0 0, .slice none 0 0, .int .i64 0]) := by kernel_rfl
theorem sz_63 : szT Try.prog 63 = some 3 := by kernel_rfl
theorem by_63 : byT Try.prog 63 = some 48 := by kernel_rfl
theorem ag_63 : aggT Try.prog 63 = true := by kernel_rfl
theorem kn_63 : knownT Try.prog 63 = true := by kernel_rfl
theorem it_63 : isIntT Try.prog 63 = false := by kernel_rfl
theorem pt_63 : isPtrT Try.prog 63 = false := by kernel_rfl
theorem pl_63 : placesT Try.prog 63 = some [(0, 1), (1, 1), (2, 1)] := by kernel_rfl
theorem sh_63 : shapeT Try.prog 63 = true := by kernel_rfl
theorem fo_63_0 : fieldOf Try.prog 63 0 = some (0, 3) := by kernel_rfl
theorem fo_63_1 : fieldOf Try.prog 63 1 = some (1, 9) := by kernel_rfl
theorem fo_63_2 : fieldOf Try.prog 63 2 = some (2, 33) := by kernel_rfl
theorem zv_63 : zeroVs Try.prog 63 = some [V.sc (.int .i64 0), V.sc (.string ⟨#[]⟩), V.sc (.slice none 0 0)] := by kernel_rfl
theorem zt_63 : zeroT Try.prog 63 = some (.agg #[.int .i64 0, .string ⟨#[]⟩, .slice none 0 0]) := by kernel_rfl
theorem sz_64 : szT Try.prog 64 = some 1 := by kernel_rfl
theorem by_64 : byT Try.prog 64 = some 8 := by kernel_rfl
theorem ag_64 : aggT Try.prog 64 = false := by kernel_rfl
theorem kn_64 : knownT Try.prog 64 = true := by kernel_rfl
theorem it_64 : isIntT Try.prog 64 = true := by kernel_rfl
theorem pt_64 : isPtrT Try.prog 64 = false := by kernel_rfl
theorem zv_64 : zeroVs Try.prog 64 = some [V.sc (.int .i64 0)] := by kernel_rfl
theorem zt_64 : zeroT Try.prog 64 = some (.int .i64 0) := by kernel_rfl
theorem sz_73 : szT Try.prog 73 = some 1 := by kernel_rfl
theorem by_73 : byT Try.prog 73 = some 24 := by kernel_rfl
theorem ag_73 : aggT Try.prog 73 = false := by kernel_rfl
theorem kn_73 : knownT Try.prog 73 = true := by kernel_rfl
theorem it_73 : isIntT Try.prog 73 = false := by kernel_rfl
theorem pt_73 : isPtrT Try.prog 73 = false := by kernel_rfl
theorem zv_73 : zeroVs Try.prog 73 = some [V.sc (.slice none 0 0)] := by kernel_rfl
theorem zt_73 : zeroT Try.prog 73 = some (.slice none 0 0) := by kernel_rfl
theorem sz_75 : szT Try.prog 75 = some 1 := by kernel_rfl
theorem by_75 : byT Try.prog 75 = some 8 := by kernel_rfl
theorem ag_75 : aggT Try.prog 75 = false := by kernel_rfl
theorem kn_75 : knownT Try.prog 75 = true := by kernel_rfl
theorem it_75 : isIntT Try.prog 75 = false := by kernel_rfl
theorem pt_75 : isPtrT Try.prog 75 = true := by kernel_rfl
theorem zv_75 : zeroVs Try.prog 75 = some [V.sc (.pointer none)] := by kernel_rfl
theorem zt_75 : zeroT Try.prog 75 = some (.pointer none) := by kernel_rfl
theorem sz_78 : szT Try.prog 78 = some 3 := by kernel_rfl
theorem by_78 : byT Try.prog 78 = some 24 := by kernel_rfl
theorem ag_78 : aggT Try.prog 78 = true := by kernel_rfl
theorem kn_78 : knownT Try.prog 78 = true := by kernel_rfl
theorem it_78 : isIntT Try.prog 78 = false := by kernel_rfl
theorem pt_78 : isPtrT Try.prog 78 = false := by kernel_rfl
theorem el_78 : elemT Try.prog 78 = some 1 := by kernel_rfl
theorem pl_78 : placesT Try.prog 78 = none := by kernel_rfl
theorem sh_78 : shapeT Try.prog 78 = true := by kernel_rfl
theorem zv_78 : zeroVs Try.prog 78 = some [V.sc (.int .i64 0), V.sc (.int .i64 0), V.sc (.int .i64 0)] := by kernel_rfl
theorem zt_78 : zeroT Try.prog 78 = some (.agg #[.int .i64 0, .int .i64 0, .int .i64 0]) := by kernel_rfl
theorem sz_79 : szT Try.prog 79 = some 1 := by kernel_rfl
theorem by_79 : byT Try.prog 79 = some 24 := by kernel_rfl
theorem ag_79 : aggT Try.prog 79 = false := by kernel_rfl
theorem kn_79 : knownT Try.prog 79 = true := by kernel_rfl
theorem it_79 : isIntT Try.prog 79 = false := by kernel_rfl
theorem pt_79 : isPtrT Try.prog 79 = false := by kernel_rfl
theorem zv_79 : zeroVs Try.prog 79 = some [V.sc (.slice none 0 0)] := by kernel_rfl
theorem zt_79 : zeroT Try.prog 79 = some (.slice none 0 0) := by kernel_rfl
theorem sz_81 : szT Try.prog 81 = some 6 := by kernel_rfl
theorem by_81 : byT Try.prog 81 = some 64 := by kernel_rfl
theorem ag_81 : aggT Try.prog 81 = true := by kernel_rfl
theorem kn_81 : knownT Try.prog 81 = true := by kernel_rfl
theorem it_81 : isIntT Try.prog 81 = false := by kernel_rfl
theorem pt_81 : isPtrT Try.prog 81 = false := by kernel_rfl
theorem pl_81 : placesT Try.prog 81 = some [(0, 1), (1, 1), (2, 3), (5, 1)] := by kernel_rfl
theorem sh_81 : shapeT Try.prog 81 = true := by kernel_rfl
theorem fo_81_0 : fieldOf Try.prog 81 0 = some (0, 3) := by kernel_rfl
theorem fo_81_1 : fieldOf Try.prog 81 1 = some (1, 2) := by kernel_rfl
theorem fo_81_2 : fieldOf Try.prog 81 2 = some (2, 78) := by kernel_rfl
theorem fo_81_3 : fieldOf Try.prog 81 3 = some (5, 79) := by kernel_rfl
theorem zv_81 : zeroVs Try.prog 81 = some [V.sc (.int .i64 0), V.sc (.int .i64 0), V.sc (.int .i64 0), V.sc (.int .i64 0), V.sc (.int .i64 0), V.sc (.slice none 0 0)] := by kernel_rfl
theorem zt_81 : zeroT Try.prog 81 = some (.agg #[.int .i64 0, .int .i64 0, .int .i64 0, .int .i64 0, .int .i64 0, .slice none 0 0]) := by kernel_rfl
theorem sz_83 : szT Try.prog 83 = some 8 := by kernel_rfl
theorem by_83 : byT Try.prog 83 = some 96 := by kernel_rfl
theorem ag_83 : aggT Try.prog 83 = true := by kernel_rfl
theorem kn_83 : knownT Try.prog 83 = true := by kernel_rfl
theorem it_83 : isIntT Try.prog 83 = false := by kernel_rfl
theorem pt_83 : isPtrT Try.prog 83 = false := by kernel_rfl
theorem pl_83 : placesT Try.prog 83 = some [(0, 1), (1, 6), (7, 1)] := by kernel_rfl
theorem sh_83 : shapeT Try.prog 83 = true := by kernel_rfl
theorem fo_83_0 : fieldOf Try.prog 83 0 = some (0, 3) := by kernel_rfl
theorem fo_83_1 : fieldOf Try.prog 83 1 = some (1, 81) := by kernel_rfl
theorem fo_83_2 : fieldOf Try.prog 83 2 = some (7, 33) := by kernel_rfl
theorem zv_83 : zeroVs Try.prog 83 = some [V.sc (.int .i64 0), V.sc (.int .i64 0), V.sc (.int .i64 0), V.sc (.int .i64 0), V.sc (.int .i64 0), V.sc (.int .i64 0), V.sc (.slice none 0 0), V.sc (.slice none 0 0)] := by kernel_rfl
theorem zt_83 : zeroT Try.prog 83 = some (.agg #[.int .i64 0, .int .i64 0, .int .i64 0, .int .i64 0, .int .i64 0, .int .i64 0, .slice none 0 0, .slice none 0 0]) := by kernel_rfl
theorem sz_91 : szT Try.prog 91 = some 1 := by kernel_rfl
theorem by_91 : byT Try.prog 91 = some 8 := by kernel_rfl
theorem ag_91 : aggT Try.prog 91 = false := by kernel_rfl
theorem kn_91 : knownT Try.prog 91 = true := by kernel_rfl
theorem it_91 : isIntT Try.prog 91 = false := by kernel_rfl
theorem pt_91 : isPtrT Try.prog 91 = true := by kernel_rfl
theorem zv_91 : zeroVs Try.prog 91 = some [V.sc (.pointer none)] := by kernel_rfl
theorem zt_91 : zeroT Try.prog 91 = some (.pointer none) := by kernel_rfl
theorem sz_93 : szT Try.prog 93 = some 6 := by kernel_rfl
theorem by_93 : byT Try.prog 93 = some 80 := by kernel_rfl
theorem ag_93 : aggT Try.prog 93 = true := by kernel_rfl
theorem kn_93 : knownT Try.prog 93 = true := by kernel_rfl
theorem it_93 : isIntT Try.prog 93 = false := by kernel_rfl
theorem pt_93 : isPtrT Try.prog 93 = false := by kernel_rfl
theorem pl_93 : placesT Try.prog 93 = some [(0, 3), (3, 3)] := by kernel_rfl
theorem sh_93 : shapeT Try.prog 93 = true := by kernel_rfl
theorem fo_93_0 : fieldOf Try.prog 93 0 = some (0, 78) := by kernel_rfl
theorem fo_93_1 : fieldOf Try.prog 93 1 = some (3, 61) := by kernel_rfl
theorem zv_93 : zeroVs Try.prog 93 = some [V.sc (.int .i64 0), V.sc (.int .i64 0), V.sc (.int .i64 0), V.sc (.slice none 0 0), V.sc (.slice none 0 0), V.sc (.int .i64 0)] := by kernel_rfl
theorem zt_93 : zeroT Try.prog 93 = some (.agg #[.int .i64 0, .int .i64 0, .int .i64 0, .slice none 0 0, .slice none 0 0, .int .i64 0]) := by kernel_rfl
theorem sz_94 : szT Try.prog 94 = some 1 := by kernel_rfl
theorem by_94 : byT Try.prog 94 = some 24 := by kernel_rfl
theorem ag_94 : aggT Try.prog 94 = false := by kernel_rfl
theorem kn_94 : knownT Try.prog 94 = true := by kernel_rfl
theorem it_94 : isIntT Try.prog 94 = false := by kernel_rfl
theorem pt_94 : isPtrT Try.prog 94 = false := by kernel_rfl
theorem zv_94 : zeroVs Try.prog 94 = some [V.sc (.slice none 0 0)] := by kernel_rfl
theorem zt_94 : zeroT Try.prog 94 = some (.slice none 0 0) := by kernel_rfl
theorem sz_95 : szT Try.prog 95 = some 1 := by kernel_rfl
theorem by_95 : byT Try.prog 95 = some 24 := by kernel_rfl
theorem ag_95 : aggT Try.prog 95 = false := by kernel_rfl
theorem kn_95 : knownT Try.prog 95 = true := by kernel_rfl
theorem it_95 : isIntT Try.prog 95 = false := by kernel_rfl
theorem pt_95 : isPtrT Try.prog 95 = false := by kernel_rfl
theorem zv_95 : zeroVs Try.prog 95 = some [V.sc (.slice none 0 0)] := by kernel_rfl
theorem zt_95 : zeroT Try.prog 95 = some (.slice none 0 0) := by kernel_rfl
theorem sz_100 : szT Try.prog 100 = some 1 := by kernel_rfl
theorem by_100 : byT Try.prog 100 = some 24 := by kernel_rfl
theorem ag_100 : aggT Try.prog 100 = false := by kernel_rfl
theorem kn_100 : knownT Try.prog 100 = true := by kernel_rfl
theorem it_100 : isIntT Try.prog 100 = false := by kernel_rfl
theorem pt_100 : isPtrT Try.prog 100 = false := by kernel_rfl
theorem zv_100 : zeroVs Try.prog 100 = some [V.sc (.slice none 0 0)] := by kernel_rfl
theorem zt_100 : zeroT Try.prog 100 = some (.slice none 0 0) := by kernel_rfl
theorem sz_115 : szT Try.prog 115 = some 3 := by kernel_rfl
theorem by_115 : byT Try.prog 115 = some 40 := by kernel_rfl
theorem ag_115 : aggT Try.prog 115 = true := by kernel_rfl
theorem kn_115 : knownT Try.prog 115 = true := by kernel_rfl
theorem it_115 : isIntT Try.prog 115 = false := by kernel_rfl
theorem pt_115 : isPtrT Try.prog 115 = false := by kernel_rfl
theorem pl_115 : placesT Try.prog 115 = some [(0, 2), (2, 1)] := by kernel_rfl
theorem sh_115 : shapeT Try.prog 115 = true := by kernel_rfl
theorem fo_115_0 : fieldOf Try.prog 115 0 = some (0, 35) := by kernel_rfl
theorem fo_115_1 : fieldOf Try.prog 115 1 = some (2, 4) := by kernel_rfl
theorem zv_115 : zeroVs Try.prog 115 = some [V.sc (.int .i64 0), V.sc (.slice none 0 0), V.sc (.bool false)] := by kernel_rfl
theorem zt_115 : zeroT Try.prog 115 = some (.agg #[.int .i64 0, .slice none 0 0, .bool false]) := by kernel_rfl
theorem sz_116 : szT Try.prog 116 = some 192 := by kernel_rfl
theorem by_116 : byT Try.prog 116 = some 2560 := by kernel_rfl
theorem ag_116 : aggT Try.prog 116 = true := by kernel_rfl
theorem kn_116 : knownT Try.prog 116 = true := by kernel_rfl
theorem it_116 : isIntT Try.prog 116 = false := by kernel_rfl
theorem pt_116 : isPtrT Try.prog 116 = false := by kernel_rfl
theorem el_116 : elemT Try.prog 116 = some 3 := by kernel_rfl
theorem pl_116 : placesT Try.prog 116 = none := by kernel_rfl
theorem sh_116 : shapeT Try.prog 116 = true := by kernel_rfl
theorem sz_118 : szT Try.prog 118 = some 193 := by kernel_rfl
theorem by_118 : byT Try.prog 118 = some 2568 := by kernel_rfl
theorem ag_118 : aggT Try.prog 118 = true := by kernel_rfl
theorem kn_118 : knownT Try.prog 118 = true := by kernel_rfl
theorem it_118 : isIntT Try.prog 118 = false := by kernel_rfl
theorem pt_118 : isPtrT Try.prog 118 = false := by kernel_rfl
theorem pl_118 : placesT Try.prog 118 = some [(0, 192), (192, 1)] := by kernel_rfl
theorem sh_118 : shapeT Try.prog 118 = true := by kernel_rfl
theorem fo_118_0 : fieldOf Try.prog 118 0 = some (0, 116) := by kernel_rfl
theorem fo_118_1 : fieldOf Try.prog 118 1 = some (192, 3) := by kernel_rfl
theorem sz_120 : szT Try.prog 120 = some 1 := by kernel_rfl
theorem by_120 : byT Try.prog 120 = some 8 := by kernel_rfl
theorem ag_120 : aggT Try.prog 120 = false := by kernel_rfl
theorem kn_120 : knownT Try.prog 120 = true := by kernel_rfl
theorem it_120 : isIntT Try.prog 120 = false := by kernel_rfl
theorem pt_120 : isPtrT Try.prog 120 = true := by kernel_rfl
theorem zv_120 : zeroVs Try.prog 120 = some [V.sc (.pointer none)] := by kernel_rfl
theorem zt_120 : zeroT Try.prog 120 = some (.pointer none) := by kernel_rfl
theorem sz_122 : szT Try.prog 122 = some 1 := by kernel_rfl
theorem by_122 : byT Try.prog 122 = some 24 := by kernel_rfl
theorem ag_122 : aggT Try.prog 122 = false := by kernel_rfl
theorem kn_122 : knownT Try.prog 122 = true := by kernel_rfl
theorem it_122 : isIntT Try.prog 122 = false := by kernel_rfl
theorem pt_122 : isPtrT Try.prog 122 = false := by kernel_rfl
theorem zv_122 : zeroVs Try.prog 122 = some [V.sc (.slice none 0 0)] := by kernel_rfl
theorem zt_122 : zeroT Try.prog 122 = some (.slice none 0 0) := by kernel_rfl
theorem sz_125 : szT Try.prog 125 = some 1 := by kernel_rfl
theorem by_125 : byT Try.prog 125 = some 8 := by kernel_rfl
theorem ag_125 : aggT Try.prog 125 = false := by kernel_rfl
theorem kn_125 : knownT Try.prog 125 = true := by kernel_rfl
theorem it_125 : isIntT Try.prog 125 = false := by kernel_rfl
theorem pt_125 : isPtrT Try.prog 125 = false := by kernel_rfl
theorem zv_125 : zeroVs Try.prog 125 = some [V.sc (.map none)] := by kernel_rfl
theorem zt_125 : zeroT Try.prog 125 = some (.map none) := by kernel_rfl
theorem sz_127 : szT Try.prog 127 = some 3 := by kernel_rfl
theorem by_127 : byT Try.prog 127 = some 40 := by kernel_rfl
theorem ag_127 : aggT Try.prog 127 = true := by kernel_rfl
theorem kn_127 : knownT Try.prog 127 = true := by kernel_rfl
theorem it_127 : isIntT Try.prog 127 = false := by kernel_rfl
theorem pt_127 : isPtrT Try.prog 127 = false := by kernel_rfl
theorem pl_127 : placesT Try.prog 127 = some [(0, 1), (1, 1), (2, 1)] := by kernel_rfl
theorem sh_127 : shapeT Try.prog 127 = true := by kernel_rfl
theorem fo_127_0 : fieldOf Try.prog 127 0 = some (0, 58) := by kernel_rfl
theorem fo_127_1 : fieldOf Try.prog 127 1 = some (1, 125) := by kernel_rfl
theorem fo_127_2 : fieldOf Try.prog 127 2 = some (2, 3) := by kernel_rfl
theorem zv_127 : zeroVs Try.prog 127 = some [V.sc (.slice none 0 0), V.sc (.map none), V.sc (.int .i64 0)] := by kernel_rfl
theorem zt_127 : zeroT Try.prog 127 = some (.agg #[.slice none 0 0, .map none, .int .i64 0]) := by kernel_rfl
theorem sz_129 : szT Try.prog 129 = some 1 := by kernel_rfl
theorem by_129 : byT Try.prog 129 = some 8 := by kernel_rfl
theorem ag_129 : aggT Try.prog 129 = false := by kernel_rfl
theorem kn_129 : knownT Try.prog 129 = true := by kernel_rfl
theorem it_129 : isIntT Try.prog 129 = true := by kernel_rfl
theorem pt_129 : isPtrT Try.prog 129 = false := by kernel_rfl
theorem zv_129 : zeroVs Try.prog 129 = some [V.sc (.int .u64 0)] := by kernel_rfl
theorem zt_129 : zeroT Try.prog 129 = some (.int .u64 0) := by kernel_rfl
theorem sz_138 : szT Try.prog 138 = some 3 := by kernel_rfl
theorem by_138 : byT Try.prog 138 = some 40 := by kernel_rfl
theorem ag_138 : aggT Try.prog 138 = true := by kernel_rfl
theorem kn_138 : knownT Try.prog 138 = true := by kernel_rfl
theorem it_138 : isIntT Try.prog 138 = false := by kernel_rfl
theorem pt_138 : isPtrT Try.prog 138 = false := by kernel_rfl
theorem pl_138 : placesT Try.prog 138 = some [(0, 1), (1, 1), (2, 1)] := by kernel_rfl
theorem sh_138 : shapeT Try.prog 138 = true := by kernel_rfl
theorem eq_138 : eqPlan Try.prog 138 = some [(2, 0), (2, 1), (1, 2)] := by kernel_rfl
theorem fo_138_0 : fieldOf Try.prog 138 0 = some (0, 9) := by kernel_rfl
theorem fo_138_1 : fieldOf Try.prog 138 1 = some (1, 9) := by kernel_rfl
theorem fo_138_2 : fieldOf Try.prog 138 2 = some (2, 4) := by kernel_rfl
theorem zv_138 : zeroVs Try.prog 138 = some [V.sc (.string ⟨#[]⟩), V.sc (.string ⟨#[]⟩), V.sc (.bool false)] := by kernel_rfl
theorem zt_138 : zeroT Try.prog 138 = some (.agg #[.string ⟨#[]⟩, .string ⟨#[]⟩, .bool false]) := by kernel_rfl
theorem sz_141 : szT Try.prog 141 = some 4 := by kernel_rfl
theorem by_141 : byT Try.prog 141 = some 32 := by kernel_rfl
theorem ag_141 : aggT Try.prog 141 = true := by kernel_rfl
theorem kn_141 : knownT Try.prog 141 = true := by kernel_rfl
theorem it_141 : isIntT Try.prog 141 = false := by kernel_rfl
theorem pt_141 : isPtrT Try.prog 141 = false := by kernel_rfl
theorem pl_141 : placesT Try.prog 141 = some [(0, 1), (1, 3)] := by kernel_rfl
theorem sh_141 : shapeT Try.prog 141 = true := by kernel_rfl
theorem fo_141_0 : fieldOf Try.prog 141 0 = some (0, 55) := by kernel_rfl
theorem fo_141_1 : fieldOf Try.prog 141 1 = some (1, 78) := by kernel_rfl
theorem zv_141 : zeroVs Try.prog 141 = some [V.sc (.pointer none), V.sc (.int .i64 0), V.sc (.int .i64 0), V.sc (.int .i64 0)] := by kernel_rfl
theorem zt_141 : zeroT Try.prog 141 = some (.agg #[.pointer none, .int .i64 0, .int .i64 0, .int .i64 0]) := by kernel_rfl
theorem sz_145 : szT Try.prog 145 = some 1 := by kernel_rfl
theorem by_145 : byT Try.prog 145 = some 8 := by kernel_rfl
theorem ag_145 : aggT Try.prog 145 = false := by kernel_rfl
theorem kn_145 : knownT Try.prog 145 = true := by kernel_rfl
theorem it_145 : isIntT Try.prog 145 = false := by kernel_rfl
theorem pt_145 : isPtrT Try.prog 145 = false := by kernel_rfl
theorem zv_145 : zeroVs Try.prog 145 = some [V.sc (.nilFunc)] := by kernel_rfl
theorem zt_145 : zeroT Try.prog 145 = some (.nilFunc) := by kernel_rfl
theorem sz_146 : szT Try.prog 146 = some 1 := by kernel_rfl
theorem by_146 : byT Try.prog 146 = some 8 := by kernel_rfl
theorem ag_146 : aggT Try.prog 146 = false := by kernel_rfl
theorem kn_146 : knownT Try.prog 146 = true := by kernel_rfl
theorem it_146 : isIntT Try.prog 146 = false := by kernel_rfl
theorem pt_146 : isPtrT Try.prog 146 = true := by kernel_rfl
theorem zv_146 : zeroVs Try.prog 146 = some [V.sc (.pointer none)] := by kernel_rfl
theorem zt_146 : zeroT Try.prog 146 = some (.pointer none) := by kernel_rfl
theorem sz_148 : szT Try.prog 148 = some 3 := by kernel_rfl
theorem by_148 : byT Try.prog 148 = some 40 := by kernel_rfl
theorem ag_148 : aggT Try.prog 148 = true := by kernel_rfl
theorem kn_148 : knownT Try.prog 148 = true := by kernel_rfl
theorem it_148 : isIntT Try.prog 148 = false := by kernel_rfl
theorem pt_148 : isPtrT Try.prog 148 = false := by kernel_rfl
theorem pl_148 : placesT Try.prog 148 = some [(0, 1), (1, 1), (2, 1)] := by kernel_rfl
theorem sh_148 : shapeT Try.prog 148 = true := by kernel_rfl
theorem fo_148_0 : fieldOf Try.prog 148 0 = some (0, 33) := by kernel_rfl
theorem fo_148_1 : fieldOf Try.prog 148 1 = some (1, 3) := by kernel_rfl
theorem fo_148_2 : fieldOf Try.prog 148 2 = some (2, 64) := by kernel_rfl
theorem zv_148 : zeroVs Try.prog 148 = some [V.sc (.slice none 0 0), V.sc (.int .i64 0), V.sc (.int .i64 0)] := by kernel_rfl
theorem zt_148 : zeroT Try.prog 148 = some (.agg #[.slice none 0 0, .int .i64 0, .int .i64 0]) := by kernel_rfl
theorem sz_154 : szT Try.prog 154 = some 7 := by kernel_rfl
theorem by_154 : byT Try.prog 154 = some 72 := by kernel_rfl
theorem ag_154 : aggT Try.prog 154 = true := by kernel_rfl
theorem kn_154 : knownT Try.prog 154 = true := by kernel_rfl
theorem it_154 : isIntT Try.prog 154 = false := by kernel_rfl
theorem pt_154 : isPtrT Try.prog 154 = false := by kernel_rfl
theorem pl_154 : placesT Try.prog 154 = some [(0, 1), (1, 6)] := by kernel_rfl
theorem sh_154 : shapeT Try.prog 154 = true := by kernel_rfl
theorem fo_154_0 : fieldOf Try.prog 154 0 = some (0, 4) := by kernel_rfl
theorem fo_154_1 : fieldOf Try.prog 154 1 = some (1, 81) := by kernel_rfl
theorem zv_154 : zeroVs Try.prog 154 = some [V.sc (.bool false), V.sc (.int .i64 0), V.sc (.int .i64 0), V.sc (.int .i64 0), V.sc (.int .i64 0), V.sc (.int .i64 0), V.sc (.slice none 0 0)] := by kernel_rfl
theorem zt_154 : zeroT Try.prog 154 = some (.agg #[.bool false, .int .i64 0, .int .i64 0, .int .i64 0, .int .i64 0, .int .i64 0, .slice none 0 0]) := by kernel_rfl
theorem sz_155 : szT Try.prog 155 = some 7 := by kernel_rfl
theorem by_155 : byT Try.prog 155 = some 72 := by kernel_rfl
theorem ag_155 : aggT Try.prog 155 = true := by kernel_rfl
theorem kn_155 : knownT Try.prog 155 = true := by kernel_rfl
theorem it_155 : isIntT Try.prog 155 = false := by kernel_rfl
theorem pt_155 : isPtrT Try.prog 155 = false := by kernel_rfl
theorem pl_155 : placesT Try.prog 155 = some [(0, 1), (1, 6)] := by kernel_rfl
theorem sh_155 : shapeT Try.prog 155 = true := by kernel_rfl
theorem fo_155_0 : fieldOf Try.prog 155 0 = some (0, 4) := by kernel_rfl
theorem fo_155_1 : fieldOf Try.prog 155 1 = some (1, 81) := by kernel_rfl
theorem zv_155 : zeroVs Try.prog 155 = some [V.sc (.bool false), V.sc (.int .i64 0), V.sc (.int .i64 0), V.sc (.int .i64 0), V.sc (.int .i64 0), V.sc (.int .i64 0), V.sc (.slice none 0 0)] := by kernel_rfl
theorem zt_155 : zeroT Try.prog 155 = some (.agg #[.bool false, .int .i64 0, .int .i64 0, .int .i64 0, .int .i64 0, .int .i64 0, .slice none 0 0]) := by kernel_rfl
theorem sz_160 : szT Try.prog 160 = some 9 := by kernel_rfl
theorem by_160 : byT Try.prog 160 = some 88 := by kernel_rfl
theorem ag_160 : aggT Try.prog 160 = true := by kernel_rfl
theorem kn_160 : knownT Try.prog 160 = true := by kernel_rfl
theorem it_160 : isIntT Try.prog 160 = false := by kernel_rfl
theorem pt_160 : isPtrT Try.prog 160 = false := by kernel_rfl
theorem pl_160 : placesT Try.prog 160 = some [(0, 7), (7, 1), (8, 1)] := by kernel_rfl
theorem sh_160 : shapeT Try.prog 160 = true := by kernel_rfl
theorem fo_160_0 : fieldOf Try.prog 160 0 = some (0, 154) := by kernel_rfl
theorem fo_160_1 : fieldOf Try.prog 160 1 = some (7, 3) := by kernel_rfl
theorem fo_160_2 : fieldOf Try.prog 160 2 = some (8, 64) := by kernel_rfl
theorem zv_160 : zeroVs Try.prog 160 = some [V.sc (.bool false), V.sc (.int .i64 0), V.sc (.int .i64 0), V.sc (.int .i64 0), V.sc (.int .i64 0), V.sc (.int .i64 0), V.sc (.slice none 0 0), V.sc (.int .i64 0), V.sc (.int .i64 0)] := by kernel_rfl
theorem zt_160 : zeroT Try.prog 160 = some (.agg #[.bool false, .int .i64 0, .int .i64 0, .int .i64 0, .int .i64 0, .int .i64 0, .slice none 0 0, .int .i64 0, .int .i64 0]) := by kernel_rfl
theorem sz_163 : szT Try.prog 163 = some 1 := by kernel_rfl
theorem by_163 : byT Try.prog 163 = some 24 := by kernel_rfl
theorem ag_163 : aggT Try.prog 163 = false := by kernel_rfl
theorem kn_163 : knownT Try.prog 163 = true := by kernel_rfl
theorem it_163 : isIntT Try.prog 163 = false := by kernel_rfl
theorem pt_163 : isPtrT Try.prog 163 = false := by kernel_rfl
theorem zv_163 : zeroVs Try.prog 163 = some [V.sc (.slice none 0 0)] := by kernel_rfl
theorem zt_163 : zeroT Try.prog 163 = some (.slice none 0 0) := by kernel_rfl
attribute [go_sem] sz_2 by_2 ag_2 kn_2 it_2 pt_2 zv_2 zt_2 sz_3 by_3 ag_3 kn_3
  it_3 pt_3 zv_3 zt_3 sz_4 by_4 ag_4 kn_4 it_4 pt_4 zv_4 zt_4
  sz_5 by_5 ag_5 kn_5 it_5 pt_5 zv_5 zt_5 sz_9 by_9 ag_9 kn_9
  it_9 pt_9 zv_9 zt_9 sz_20 by_20 ag_20 kn_20 it_20 pt_20 zv_20 zt_20
  sz_21 by_21 ag_21 kn_21 it_21 pt_21 zv_21 zt_21 sz_22 by_22 ag_22 kn_22
  it_22 pt_22 zv_22 zt_22 sz_25 by_25 ag_25 kn_25 it_25 pt_25 zv_25 zt_25
  sz_27 by_27 ag_27 kn_27 it_27 pt_27 zv_27 zt_27 sz_28 by_28 ag_28 kn_28
  it_28 pt_28 zv_28 zt_28 sz_29 by_29 ag_29 kn_29 it_29 pt_29 zv_29 zt_29
  sz_31 by_31 ag_31 kn_31 it_31 pt_31 pl_31 sh_31 fo_31_0 fo_31_1 zv_31 zt_31
  sz_32 by_32 ag_32 kn_32 it_32 pt_32 zv_32 zt_32 sz_33 by_33 ag_33 kn_33
  it_33 pt_33 zv_33 zt_33 sz_35 by_35 ag_35 kn_35 it_35 pt_35 pl_35 sh_35
  fo_35_0 fo_35_1 zv_35 zt_35 sz_37 by_37 ag_37 kn_37 it_37 pt_37 pl_37 sh_37
  fo_37_0 fo_37_1 fo_37_2 fo_37_3 fo_37_4 zv_37 zt_37 sz_40 by_40 ag_40 kn_40 it_40
  pt_40 pl_40 sh_40 fo_40_0 fo_40_1 zv_40 zt_40 sz_47 by_47 ag_47 kn_47 it_47
  pt_47 zv_47 zt_47 sz_53 by_53 ag_53 kn_53 it_53 pt_53 zv_53 zt_53 sz_55
  by_55 ag_55 kn_55 it_55 pt_55 zv_55 zt_55 sz_57 by_57 ag_57 kn_57 it_57
  pt_57 zv_57 zt_57 sz_58 by_58 ag_58 kn_58 it_58 pt_58 zv_58 zt_58 sz_59
  by_59 ag_59 kn_59 it_59 pt_59 zv_59 zt_59 sz_61 by_61 ag_61 kn_61 it_61
  pt_61 pl_61 sh_61 fo_61_0 fo_61_1 fo_61_2 zv_61 zt_61 sz_63 by_63 ag_63 kn_63
  it_63 pt_63 pl_63 sh_63 fo_63_0 fo_63_1 fo_63_2 zv_63 zt_63 sz_64 by_64 ag_64
  kn_64 it_64 pt_64 zv_64 zt_64 sz_73 by_73 ag_73 kn_73 it_73 pt_73 zv_73
  zt_73 sz_75 by_75 ag_75 kn_75 it_75 pt_75 zv_75 zt_75 sz_78 by_78 ag_78
  kn_78 it_78 pt_78 el_78 pl_78 sh_78 zv_78 zt_78 sz_79 by_79 ag_79 kn_79
  it_79 pt_79 zv_79 zt_79 sz_81 by_81 ag_81 kn_81 it_81 pt_81 pl_81 sh_81
  fo_81_0 fo_81_1 fo_81_2 fo_81_3 zv_81 zt_81 sz_83 by_83 ag_83 kn_83 it_83 pt_83
  pl_83 sh_83 fo_83_0 fo_83_1 fo_83_2 zv_83 zt_83 sz_91 by_91 ag_91 kn_91 it_91
  pt_91 zv_91 zt_91 sz_93 by_93 ag_93 kn_93 it_93 pt_93 pl_93 sh_93 fo_93_0
  fo_93_1 zv_93 zt_93 sz_94 by_94 ag_94 kn_94 it_94 pt_94 zv_94 zt_94 sz_95
  by_95 ag_95 kn_95 it_95 pt_95 zv_95 zt_95 sz_100 by_100 ag_100 kn_100 it_100
  pt_100 zv_100 zt_100 sz_115 by_115 ag_115 kn_115 it_115 pt_115 pl_115 sh_115 fo_115_0
  fo_115_1 zv_115 zt_115 sz_116 by_116 ag_116 kn_116 it_116 pt_116 el_116 pl_116 sh_116
  sz_118 by_118 ag_118 kn_118 it_118 pt_118 pl_118 sh_118 fo_118_0 fo_118_1 sz_120 by_120
  ag_120 kn_120 it_120 pt_120 zv_120 zt_120 sz_122 by_122 ag_122 kn_122 it_122 pt_122
  zv_122 zt_122 sz_125 by_125 ag_125 kn_125 it_125 pt_125 zv_125 zt_125 sz_127 by_127
  ag_127 kn_127 it_127 pt_127 pl_127 sh_127 fo_127_0 fo_127_1 fo_127_2 zv_127 zt_127 sz_129
  by_129 ag_129 kn_129 it_129 pt_129 zv_129 zt_129 sz_138 by_138 ag_138 kn_138 it_138
  pt_138 pl_138 sh_138 eq_138 fo_138_0 fo_138_1 fo_138_2 zv_138 zt_138 sz_141 by_141 ag_141
  kn_141 it_141 pt_141 pl_141 sh_141 fo_141_0 fo_141_1 zv_141 zt_141 sz_145 by_145 ag_145
  kn_145 it_145 pt_145 zv_145 zt_145 sz_146 by_146 ag_146 kn_146 it_146 pt_146 zv_146
  zt_146 sz_148 by_148 ag_148 kn_148 it_148 pt_148 pl_148 sh_148 fo_148_0 fo_148_1 fo_148_2
  zv_148 zt_148 sz_154 by_154 ag_154 kn_154 it_154 pt_154 pl_154 sh_154 fo_154_0 fo_154_1
  zv_154 zt_154 sz_155 by_155 ag_155 kn_155 it_155 pt_155 pl_155 sh_155 fo_155_0 fo_155_1
  zv_155 zt_155 sz_160 by_160 ag_160 kn_160 it_160 pt_160 pl_160 sh_160 fo_160_0 fo_160_1
  fo_160_2 zv_160 zt_160 sz_163 by_163 ag_163 kn_163 it_163 pt_163 zv_163 zt_163 Try.underlying2
  Try.underlying3 Try.underlying4 Try.underlying5 Try.underlying9 Try.underlying20 Try.underlying21 Try.underlying22 Try.underlying25 Try.underlying27 Try.underlying28 Try.underlying29 Try.underlying31
  Try.underlying32 Try.underlying33 Try.underlying35 Try.underlying37 Try.underlying40 Try.underlying47 Try.underlying53 Try.underlying55 Try.underlying57 Try.underlying58 Try.underlying59 Try.underlying61
  Try.underlying63 Try.underlying64 Try.underlying73 Try.underlying75 Try.underlying78 Try.underlying79 Try.underlying81 Try.underlying83 Try.underlying91 Try.underlying93 Try.underlying94 Try.underlying95
  Try.underlying100 Try.underlying115 Try.underlying116 Try.underlying118 Try.underlying120 Try.underlying122 Try.underlying125 Try.underlying127 Try.underlying129 Try.underlying138 Try.underlying141 Try.underlying145
  Try.underlying146 Try.underlying148 Try.underlying154 Try.underlying155 Try.underlying160 Try.underlying163 Try.eqGuardType31 Try.eqGuardType35 Try.eqGuardType37 Try.eqGuardType40 Try.eqGuardType61 Try.eqGuardType63
  Try.eqGuardType78 Try.eqGuardType81 Try.eqGuardType83 Try.eqGuardType93 Try.eqGuardType115 Try.eqGuardType116 Try.eqGuardType118 Try.eqGuardType127 Try.eqGuardType138 Try.eqGuardType141 Try.eqGuardType148 Try.eqGuardType154
  Try.eqGuardType155 Try.eqGuardType160
end Go.Proofs.Ytonllhjmoenckaa
