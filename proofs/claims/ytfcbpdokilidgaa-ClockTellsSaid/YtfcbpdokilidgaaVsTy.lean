/- What the walk over values asks of this program's types (printed by gen_types.py). -/
import Derived.Test.YtfcbpdokilidgaaProg
import Derived.Test.YtfcbpdokilidgaaVsK
namespace Go.Proofs.Ytfcbpdokilidgaa
open Go Go.RowKit
theorem sz_1 : szT Try.prog 1 = some 1 := by kernel_rfl
theorem by_1 : byT Try.prog 1 = some 8 := by kernel_rfl
theorem ag_1 : aggT Try.prog 1 = false := by kernel_rfl
theorem kn_1 : knownT Try.prog 1 = true := by kernel_rfl
theorem it_1 : isIntT Try.prog 1 = false := by kernel_rfl
theorem pt_1 : isPtrT Try.prog 1 = false := by kernel_rfl
theorem zv_1 : zeroVs Try.prog 1 = some [V.sc (.nilFunc)] := by kernel_rfl
theorem zt_1 : zeroT Try.prog 1 = some (.nilFunc) := by kernel_rfl
theorem sz_2 : szT Try.prog 2 = some 1 := by kernel_rfl
theorem by_2 : byT Try.prog 2 = some 8 := by kernel_rfl
theorem ag_2 : aggT Try.prog 2 = false := by kernel_rfl
theorem kn_2 : knownT Try.prog 2 = true := by kernel_rfl
theorem it_2 : isIntT Try.prog 2 = true := by kernel_rfl
theorem pt_2 : isPtrT Try.prog 2 = false := by kernel_rfl
theorem zv_2 : zeroVs Try.prog 2 = some [V.sc (.int .i64 0)] := by kernel_rfl
theorem zt_2 : zeroT Try.prog 2 = some (.int .i64 0) := by kernel_rfl
theorem sz_3 : szT Try.prog 3 = some 1 := by kernel_rfl
theorem by_3 : byT Try.prog 3 = some 8 := by kernel_rfl
theorem ag_3 : aggT Try.prog 3 = false := by kernel_rfl
theorem kn_3 : knownT Try.prog 3 = true := by kernel_rfl
theorem it_3 : isIntT Try.prog 3 = true := by kernel_rfl
theorem pt_3 : isPtrT Try.prog 3 = false := by kernel_rfl
theorem zv_3 : zeroVs Try.prog 3 = some [V.sc (.int .i64 0)] := by kernel_rfl
theorem zt_3 : zeroT Try.prog 3 = some (.int .i64 0) := by kernel_rfl
theorem sz_4 : szT Try.prog 4 = some 1 := by kernel_rfl
theorem by_4 : byT Try.prog 4 = some 1 := by kernel_rfl
theorem ag_4 : aggT Try.prog 4 = false := by kernel_rfl
theorem kn_4 : knownT Try.prog 4 = true := by kernel_rfl
theorem it_4 : isIntT Try.prog 4 = false := by kernel_rfl
theorem pt_4 : isPtrT Try.prog 4 = false := by kernel_rfl
theorem zv_4 : zeroVs Try.prog 4 = some [V.sc (.bool false)] := by kernel_rfl
theorem zt_4 : zeroT Try.prog 4 = some (.bool false) := by kernel_rfl
theorem sz_5 : szT Try.prog 5 = some 1 := by kernel_rfl
theorem by_5 : byT Try.prog 5 = some 1 := by kernel_rfl
theorem ag_5 : aggT Try.prog 5 = false := by kernel_rfl
theorem kn_5 : knownT Try.prog 5 = true := by kernel_rfl
theorem it_5 : isIntT Try.prog 5 = true := by kernel_rfl
theorem pt_5 : isPtrT Try.prog 5 = false := by kernel_rfl
theorem zv_5 : zeroVs Try.prog 5 = some [V.sc (.int .u8 0)] := by kernel_rfl
theorem zt_5 : zeroT Try.prog 5 = some (.int .u8 0) := by kernel_rfl
theorem sz_6 : szT Try.prog 6 = some 1 := by kernel_rfl
theorem by_6 : byT Try.prog 6 = some 1 := by kernel_rfl
theorem ag_6 : aggT Try.prog 6 = false := by kernel_rfl
theorem kn_6 : knownT Try.prog 6 = true := by kernel_rfl
theorem it_6 : isIntT Try.prog 6 = true := by kernel_rfl
theorem pt_6 : isPtrT Try.prog 6 = false := by kernel_rfl
theorem zv_6 : zeroVs Try.prog 6 = some [V.sc (.int .u8 0)] := by kernel_rfl
theorem zt_6 : zeroT Try.prog 6 = some (.int .u8 0) := by kernel_rfl
theorem sz_7 : szT Try.prog 7 = some 4 := by kernel_rfl
theorem by_7 : byT Try.prog 7 = some 24 := by kernel_rfl
theorem ag_7 : aggT Try.prog 7 = true := by kernel_rfl
theorem kn_7 : knownT Try.prog 7 = true := by kernel_rfl
theorem it_7 : isIntT Try.prog 7 = false := by kernel_rfl
theorem pt_7 : isPtrT Try.prog 7 = false := by kernel_rfl
theorem pl_7 : placesT Try.prog 7 = some [(0, 1), (1, 1), (2, 1), (3, 1)] := by kernel_rfl
theorem sh_7 : shapeT Try.prog 7 = true := by kernel_rfl
theorem fo_7_0 : fieldOf Try.prog 7 0 = some (0, 2) := by kernel_rfl
theorem fo_7_1 : fieldOf Try.prog 7 1 = some (1, 3) := by kernel_rfl
theorem fo_7_2 : fieldOf Try.prog 7 2 = some (2, 4) := by kernel_rfl
theorem fo_7_3 : fieldOf Try.prog 7 3 = some (3, 6) := by kernel_rfl
theorem zv_7 : zeroVs Try.prog 7 = some [V.sc (.int .i64 0), V.sc (.int .i64 0), V.sc (.bool false), V.sc (.int .u8 0)] := by kernel_rfl
theorem zt_7 : zeroT Try.prog 7 = some (.agg #[.int .i64 0, .int .i64 0, .bool false, .int .u8 0]) := by kernel_rfl
theorem sz_8 : szT Try.prog 8 = some 4 := by kernel_rfl
theorem by_8 : byT Try.prog 8 = some 24 := by kernel_rfl
theorem ag_8 : aggT Try.prog 8 = true := by kernel_rfl
theorem kn_8 : knownT Try.prog 8 = true := by kernel_rfl
theorem it_8 : isIntT Try.prog 8 = false := by kernel_rfl
theorem pt_8 : isPtrT Try.prog 8 = false := by kernel_rfl
theorem pl_8 : placesT Try.prog 8 = some [(0, 1), (1, 1), (2, 1), (3, 1)] := by kernel_rfl
theorem sh_8 : shapeT Try.prog 8 = true := by kernel_rfl
theorem fo_8_0 : fieldOf Try.prog 8 0 = some (0, 2) := by kernel_rfl
theorem fo_8_1 : fieldOf Try.prog 8 1 = some (1, 3) := by kernel_rfl
theorem fo_8_2 : fieldOf Try.prog 8 2 = some (2, 4) := by kernel_rfl
theorem fo_8_3 : fieldOf Try.prog 8 3 = some (3, 6) := by kernel_rfl
theorem zv_8 : zeroVs Try.prog 8 = some [V.sc (.int .i64 0), V.sc (.int .i64 0), V.sc (.bool false), V.sc (.int .u8 0)] := by kernel_rfl
theorem zt_8 : zeroT Try.prog 8 = some (.agg #[.int .i64 0, .int .i64 0, .bool false, .int .u8 0]) := by kernel_rfl
theorem sz_9 : szT Try.prog 9 = some 1 := by kernel_rfl
theorem by_9 : byT Try.prog 9 = some 16 := by kernel_rfl
theorem ag_9 : aggT Try.prog 9 = false := by kernel_rfl
theorem kn_9 : knownT Try.prog 9 = true := by kernel_rfl
theorem it_9 : isIntT Try.prog 9 = false := by kernel_rfl
theorem pt_9 : isPtrT Try.prog 9 = false := by kernel_rfl
theorem zv_9 : zeroVs Try.prog 9 = some [V.sc (.string ⟨#[]⟩)] := by kernel_rfl
theorem zt_9 : zeroT Try.prog 9 = some (.string ⟨#[]⟩) := by kernel_rfl
theorem sz_10 : szT Try.prog 10 = some 1 := by kernel_rfl
theorem by_10 : byT Try.prog 10 = some 16 := by kernel_rfl
theorem ag_10 : aggT Try.prog 10 = false := by kernel_rfl
theorem kn_10 : knownT Try.prog 10 = true := by kernel_rfl
theorem it_10 : isIntT Try.prog 10 = false := by kernel_rfl
theorem pt_10 : isPtrT Try.prog 10 = false := by kernel_rfl
theorem zv_10 : zeroVs Try.prog 10 = some [V.sc (.string ⟨#[]⟩)] := by kernel_rfl
theorem zt_10 : zeroT Try.prog 10 = some (.string ⟨#[]⟩) := by kernel_rfl
theorem sz_11 : szT Try.prog 11 = some 1 := by kernel_rfl
theorem by_11 : byT Try.prog 11 = some 16 := by kernel_rfl
theorem ag_11 : aggT Try.prog 11 = false := by kernel_rfl
theorem kn_11 : knownT Try.prog 11 = true := by kernel_rfl
theorem it_11 : isIntT Try.prog 11 = false := by kernel_rfl
theorem pt_11 : isPtrT Try.prog 11 = false := by kernel_rfl
theorem zv_11 : zeroVs Try.prog 11 = some [V.sc (.string ⟨#[]⟩)] := by kernel_rfl
theorem zt_11 : zeroT Try.prog 11 = some (.string ⟨#[]⟩) := by kernel_rfl
theorem sz_12 : szT Try.prog 12 = some 1 := by kernel_rfl
theorem by_12 : byT Try.prog 12 = some 8 := by kernel_rfl
theorem ag_12 : aggT Try.prog 12 = false := by kernel_rfl
theorem kn_12 : knownT Try.prog 12 = true := by kernel_rfl
theorem it_12 : isIntT Try.prog 12 = true := by kernel_rfl
theorem pt_12 : isPtrT Try.prog 12 = false := by kernel_rfl
theorem zv_12 : zeroVs Try.prog 12 = some [V.sc (.int .u64 0)] := by kernel_rfl
theorem zt_12 : zeroT Try.prog 12 = some (.int .u64 0) := by kernel_rfl
theorem sz_13 : szT Try.prog 13 = some 2 := by kernel_rfl
theorem by_13 : byT Try.prog 13 = some 24 := by kernel_rfl
theorem ag_13 : aggT Try.prog 13 = true := by kernel_rfl
theorem kn_13 : knownT Try.prog 13 = true := by kernel_rfl
theorem it_13 : isIntT Try.prog 13 = false := by kernel_rfl
theorem pt_13 : isPtrT Try.prog 13 = false := by kernel_rfl
theorem pl_13 : placesT Try.prog 13 = some [(0, 1), (1, 1)] := by kernel_rfl
theorem sh_13 : shapeT Try.prog 13 = true := by kernel_rfl
theorem fo_13_0 : fieldOf Try.prog 13 0 = some (0, 9) := by kernel_rfl
theorem fo_13_1 : fieldOf Try.prog 13 1 = some (1, 12) := by kernel_rfl
theorem zv_13 : zeroVs Try.prog 13 = some [V.sc (.string ⟨#[]⟩), V.sc (.int .u64 0)] := by kernel_rfl
theorem zt_13 : zeroT Try.prog 13 = some (.agg #[.string ⟨#[]⟩, .int .u64 0]) := by kernel_rfl
theorem sz_14 : szT Try.prog 14 = some 2 := by kernel_rfl
theorem by_14 : byT Try.prog 14 = some 24 := by kernel_rfl
theorem ag_14 : aggT Try.prog 14 = true := by kernel_rfl
theorem kn_14 : knownT Try.prog 14 = true := by kernel_rfl
theorem it_14 : isIntT Try.prog 14 = false := by kernel_rfl
theorem pt_14 : isPtrT Try.prog 14 = false := by kernel_rfl
theorem pl_14 : placesT Try.prog 14 = some [(0, 1), (1, 1)] := by kernel_rfl
theorem sh_14 : shapeT Try.prog 14 = true := by kernel_rfl
theorem fo_14_0 : fieldOf Try.prog 14 0 = some (0, 9) := by kernel_rfl
theorem fo_14_1 : fieldOf Try.prog 14 1 = some (1, 12) := by kernel_rfl
theorem zv_14 : zeroVs Try.prog 14 = some [V.sc (.string ⟨#[]⟩), V.sc (.int .u64 0)] := by kernel_rfl
theorem zt_14 : zeroT Try.prog 14 = some (.agg #[.string ⟨#[]⟩, .int .u64 0]) := by kernel_rfl
theorem sz_15 : szT Try.prog 15 = some 1 := by kernel_rfl
theorem by_15 : byT Try.prog 15 = some 8 := by kernel_rfl
theorem ag_15 : aggT Try.prog 15 = false := by kernel_rfl
theorem kn_15 : knownT Try.prog 15 = true := by kernel_rfl
theorem it_15 : isIntT Try.prog 15 = false := by kernel_rfl
theorem pt_15 : isPtrT Try.prog 15 = true := by kernel_rfl
theorem zv_15 : zeroVs Try.prog 15 = some [V.sc (.pointer none)] := by kernel_rfl
theorem zt_15 : zeroT Try.prog 15 = some (.pointer none) := by kernel_rfl
theorem sz_16 : szT Try.prog 16 = some 1 := by kernel_rfl
theorem by_16 : byT Try.prog 16 = some 8 := by kernel_rfl
theorem ag_16 : aggT Try.prog 16 = false := by kernel_rfl
theorem kn_16 : knownT Try.prog 16 = true := by kernel_rfl
theorem it_16 : isIntT Try.prog 16 = false := by kernel_rfl
theorem pt_16 : isPtrT Try.prog 16 = true := by kernel_rfl
theorem zv_16 : zeroVs Try.prog 16 = some [V.sc (.pointer none)] := by kernel_rfl
theorem zt_16 : zeroT Try.prog 16 = some (.pointer none) := by kernel_rfl
theorem sz_17 : szT Try.prog 17 = some 1 := by kernel_rfl
theorem by_17 : byT Try.prog 17 = some 8 := by kernel_rfl
theorem ag_17 : aggT Try.prog 17 = false := by kernel_rfl
theorem kn_17 : knownT Try.prog 17 = true := by kernel_rfl
theorem it_17 : isIntT Try.prog 17 = false := by kernel_rfl
theorem pt_17 : isPtrT Try.prog 17 = true := by kernel_rfl
theorem zv_17 : zeroVs Try.prog 17 = some [V.sc (.pointer none)] := by kernel_rfl
theorem zt_17 : zeroT Try.prog 17 = some (.pointer none) := by kernel_rfl
theorem sz_18 : szT Try.prog 18 = some 1 := by kernel_rfl
theorem by_18 : byT Try.prog 18 = some 8 := by kernel_rfl
theorem ag_18 : aggT Try.prog 18 = true := by kernel_rfl
theorem kn_18 : knownT Try.prog 18 = true := by kernel_rfl
theorem it_18 : isIntT Try.prog 18 = false := by kernel_rfl
theorem pt_18 : isPtrT Try.prog 18 = false := by kernel_rfl
theorem pl_18 : placesT Try.prog 18 = some [(0, 1)] := by kernel_rfl
theorem sh_18 : shapeT Try.prog 18 = true := by kernel_rfl
theorem fo_18_0 : fieldOf Try.prog 18 0 = some (0, 17) := by kernel_rfl
theorem zv_18 : zeroVs Try.prog 18 = some [V.sc (.pointer none)] := by kernel_rfl
theorem zt_18 : zeroT Try.prog 18 = some (.agg #[.pointer none]) := by kernel_rfl
theorem sz_19 : szT Try.prog 19 = some 1 := by kernel_rfl
theorem by_19 : byT Try.prog 19 = some 8 := by kernel_rfl
theorem ag_19 : aggT Try.prog 19 = true := by kernel_rfl
theorem kn_19 : knownT Try.prog 19 = true := by kernel_rfl
theorem it_19 : isIntT Try.prog 19 = false := by kernel_rfl
theorem pt_19 : isPtrT Try.prog 19 = false := by kernel_rfl
theorem pl_19 : placesT Try.prog 19 = some [(0, 1)] := by kernel_rfl
theorem sh_19 : shapeT Try.prog 19 = true := by kernel_rfl
theorem fo_19_0 : fieldOf Try.prog 19 0 = some (0, 17) := by kernel_rfl
theorem zv_19 : zeroVs Try.prog 19 = some [V.sc (.pointer none)] := by kernel_rfl
theorem zt_19 : zeroT Try.prog 19 = some (.agg #[.pointer none]) := by kernel_rfl
theorem sz_20 : szT Try.prog 20 = some 1 := by kernel_rfl
theorem by_20 : byT Try.prog 20 = some 16 := by kernel_rfl
theorem ag_20 : aggT Try.prog 20 = false := by kernel_rfl
theorem kn_20 : knownT Try.prog 20 = true := by kernel_rfl
theorem it_20 : isIntT Try.prog 20 = false := by kernel_rfl
theorem pt_20 : isPtrT Try.prog 20 = false := by kernel_rfl
theorem zv_20 : zeroVs Try.prog 20 = some [V.sc (.nilIface)] := by kernel_rfl
theorem zt_20 : zeroT Try.prog 20 = some (.nilIface) := by kernel_rfl
theorem sz_21 : szT Try.prog 21 = some 1 := by kernel_rfl
theorem by_21 : byT Try.prog 21 = some 4 := by kernel_rfl
theorem ag_21 : aggT Try.prog 21 = false := by kernel_rfl
theorem kn_21 : knownT Try.prog 21 = true := by kernel_rfl
theorem it_21 : isIntT Try.prog 21 = true := by kernel_rfl
theorem pt_21 : isPtrT Try.prog 21 = false := by kernel_rfl
theorem zv_21 : zeroVs Try.prog 21 = some [V.sc (.int .i32 0)] := by kernel_rfl
theorem zt_21 : zeroT Try.prog 21 = some (.int .i32 0) := by kernel_rfl
theorem sz_22 : szT Try.prog 22 = some 1 := by kernel_rfl
theorem by_22 : byT Try.prog 22 = some 24 := by kernel_rfl
theorem ag_22 : aggT Try.prog 22 = false := by kernel_rfl
theorem kn_22 : knownT Try.prog 22 = true := by kernel_rfl
theorem it_22 : isIntT Try.prog 22 = false := by kernel_rfl
theorem pt_22 : isPtrT Try.prog 22 = false := by kernel_rfl
theorem zv_22 : zeroVs Try.prog 22 = some [V.sc (.slice none 0 0)] := by kernel_rfl
theorem zt_22 : zeroT Try.prog 22 = some (.slice none 0 0) := by kernel_rfl
theorem sz_23 : szT Try.prog 23 = some 1 := by kernel_rfl
theorem by_23 : byT Try.prog 23 = some 8 := by kernel_rfl
theorem ag_23 : aggT Try.prog 23 = false := by kernel_rfl
theorem kn_23 : knownT Try.prog 23 = true := by kernel_rfl
theorem it_23 : isIntT Try.prog 23 = false := by kernel_rfl
theorem pt_23 : isPtrT Try.prog 23 = false := by kernel_rfl
theorem zv_23 : zeroVs Try.prog 23 = some [V.sc (.nilFunc)] := by kernel_rfl
theorem zt_23 : zeroT Try.prog 23 = some (.nilFunc) := by kernel_rfl
theorem sz_24 : szT Try.prog 24 = some 1 := by kernel_rfl
theorem by_24 : byT Try.prog 24 = some 8 := by kernel_rfl
theorem ag_24 : aggT Try.prog 24 = false := by kernel_rfl
theorem kn_24 : knownT Try.prog 24 = true := by kernel_rfl
theorem it_24 : isIntT Try.prog 24 = false := by kernel_rfl
theorem pt_24 : isPtrT Try.prog 24 = false := by kernel_rfl
theorem zv_24 : zeroVs Try.prog 24 = some [V.sc (.nilFunc)] := by kernel_rfl
theorem zt_24 : zeroT Try.prog 24 = some (.nilFunc) := by kernel_rfl
theorem sz_25 : szT Try.prog 25 = some 1 := by kernel_rfl
theorem by_25 : byT Try.prog 25 = some 8 := by kernel_rfl
theorem ag_25 : aggT Try.prog 25 = false := by kernel_rfl
theorem kn_25 : knownT Try.prog 25 = true := by kernel_rfl
theorem it_25 : isIntT Try.prog 25 = false := by kernel_rfl
theorem pt_25 : isPtrT Try.prog 25 = true := by kernel_rfl
theorem zv_25 : zeroVs Try.prog 25 = some [V.sc (.pointer none)] := by kernel_rfl
theorem zt_25 : zeroT Try.prog 25 = some (.pointer none) := by kernel_rfl
theorem sz_26 : szT Try.prog 26 = some 1 := by kernel_rfl
theorem by_26 : byT Try.prog 26 = some 8 := by kernel_rfl
theorem ag_26 : aggT Try.prog 26 = false := by kernel_rfl
theorem kn_26 : knownT Try.prog 26 = true := by kernel_rfl
theorem it_26 : isIntT Try.prog 26 = false := by kernel_rfl
theorem pt_26 : isPtrT Try.prog 26 = false := by kernel_rfl
theorem zv_26 : zeroVs Try.prog 26 = some [V.sc (.nilFunc)] := by kernel_rfl
theorem zt_26 : zeroT Try.prog 26 = some (.nilFunc) := by kernel_rfl
theorem sz_27 : szT Try.prog 27 = some 1 := by kernel_rfl
theorem by_27 : byT Try.prog 27 = some 8 := by kernel_rfl
theorem ag_27 : aggT Try.prog 27 = false := by kernel_rfl
theorem kn_27 : knownT Try.prog 27 = true := by kernel_rfl
theorem it_27 : isIntT Try.prog 27 = false := by kernel_rfl
theorem pt_27 : isPtrT Try.prog 27 = true := by kernel_rfl
theorem zv_27 : zeroVs Try.prog 27 = some [V.sc (.pointer none)] := by kernel_rfl
theorem zt_27 : zeroT Try.prog 27 = some (.pointer none) := by kernel_rfl
theorem sz_28 : szT Try.prog 28 = some 1 := by kernel_rfl
theorem by_28 : byT Try.prog 28 = some 24 := by kernel_rfl
theorem ag_28 : aggT Try.prog 28 = false := by kernel_rfl
theorem kn_28 : knownT Try.prog 28 = true := by kernel_rfl
theorem it_28 : isIntT Try.prog 28 = false := by kernel_rfl
theorem pt_28 : isPtrT Try.prog 28 = false := by kernel_rfl
theorem zv_28 : zeroVs Try.prog 28 = some [V.sc (.slice none 0 0)] := by kernel_rfl
theorem zt_28 : zeroT Try.prog 28 = some (.slice none 0 0) := by kernel_rfl
theorem sz_29 : szT Try.prog 29 = some 1 := by kernel_rfl
theorem by_29 : byT Try.prog 29 = some 24 := by kernel_rfl
theorem ag_29 : aggT Try.prog 29 = false := by kernel_rfl
theorem kn_29 : knownT Try.prog 29 = true := by kernel_rfl
theorem it_29 : isIntT Try.prog 29 = false := by kernel_rfl
theorem pt_29 : isPtrT Try.prog 29 = false := by kernel_rfl
theorem zv_29 : zeroVs Try.prog 29 = some [V.sc (.slice none 0 0)] := by kernel_rfl
theorem zt_29 : zeroT Try.prog 29 = some (.slice none 0 0) := by kernel_rfl
theorem sz_30 : szT Try.prog 30 = some 2 := by kernel_rfl
theorem by_30 : byT Try.prog 30 = some 48 := by kernel_rfl
theorem ag_30 : aggT Try.prog 30 = true := by kernel_rfl
theorem kn_30 : knownT Try.prog 30 = true := by kernel_rfl
theorem it_30 : isIntT Try.prog 30 = false := by kernel_rfl
theorem pt_30 : isPtrT Try.prog 30 = false := by kernel_rfl
theorem pl_30 : placesT Try.prog 30 = some [(0, 1), (1, 1)] := by kernel_rfl
theorem sh_30 : shapeT Try.prog 30 = true := by kernel_rfl
theorem fo_30_0 : fieldOf Try.prog 30 0 = some (0, 28) := by kernel_rfl
theorem fo_30_1 : fieldOf Try.prog 30 1 = some (1, 29) := by kernel_rfl
theorem zv_30 : zeroVs Try.prog 30 = some [V.sc (.slice none 0 0), V.sc (.slice none 0 0)] := by kernel_rfl
theorem zt_30 : zeroT Try.prog 30 = some (.agg #[.slice none 0 0, .slice none 0 0]) := by kernel_rfl
theorem sz_31 : szT Try.prog 31 = some 2 := by kernel_rfl
theorem by_31 : byT Try.prog 31 = some 48 := by kernel_rfl
theorem ag_31 : aggT Try.prog 31 = true := by kernel_rfl
theorem kn_31 : knownT Try.prog 31 = true := by kernel_rfl
theorem it_31 : isIntT Try.prog 31 = false := by kernel_rfl
theorem pt_31 : isPtrT Try.prog 31 = false := by kernel_rfl
theorem pl_31 : placesT Try.prog 31 = some [(0, 1), (1, 1)] := by kernel_rfl
theorem sh_31 : shapeT Try.prog 31 = true := by kernel_rfl
theorem fo_31_0 : fieldOf Try.prog 31 0 = some (0, 28) := by kernel_rfl
theorem fo_31_1 : fieldOf Try.prog 31 1 = some (1, 29) := by kernel_rfl
theorem zv_31 : zeroVs Try.prog 31 = some [V.sc (.slice none 0 0), V.sc (.slice none 0 0)] := by kernel_rfl
theorem zt_31 : zeroT Try.prog 31 = some (.agg #[.slice none 0 0, .slice none 0 0]) := by kernel_rfl
theorem sz_32 : szT Try.prog 32 = some 1 := by kernel_rfl
theorem by_32 : byT Try.prog 32 = some 4 := by kernel_rfl
theorem ag_32 : aggT Try.prog 32 = false := by kernel_rfl
theorem kn_32 : knownT Try.prog 32 = true := by kernel_rfl
theorem it_32 : isIntT Try.prog 32 = true := by kernel_rfl
theorem pt_32 : isPtrT Try.prog 32 = false := by kernel_rfl
theorem zv_32 : zeroVs Try.prog 32 = some [V.sc (.int .u32 0)] := by kernel_rfl
theorem zt_32 : zeroT Try.prog 32 = some (.int .u32 0) := by kernel_rfl
theorem sz_33 : szT Try.prog 33 = some 1 := by kernel_rfl
theorem by_33 : byT Try.prog 33 = some 24 := by kernel_rfl
theorem ag_33 : aggT Try.prog 33 = false := by kernel_rfl
theorem kn_33 : knownT Try.prog 33 = true := by kernel_rfl
theorem it_33 : isIntT Try.prog 33 = false := by kernel_rfl
theorem pt_33 : isPtrT Try.prog 33 = false := by kernel_rfl
theorem zv_33 : zeroVs Try.prog 33 = some [V.sc (.slice none 0 0)] := by kernel_rfl
theorem zt_33 : zeroT Try.prog 33 = some (.slice none 0 0) := by kernel_rfl
theorem sz_34 : szT Try.prog 34 = some 2 := by kernel_rfl
theorem by_34 : byT Try.prog 34 = some 32 := by kernel_rfl
theorem ag_34 : aggT Try.prog 34 = true := by kernel_rfl
theorem kn_34 : knownT Try.prog 34 = true := by kernel_rfl
theorem it_34 : isIntT Try.prog 34 = false := by kernel_rfl
theorem pt_34 : isPtrT Try.prog 34 = false := by kernel_rfl
theorem pl_34 : placesT Try.prog 34 = some [(0, 1), (1, 1)] := by kernel_rfl
theorem sh_34 : shapeT Try.prog 34 = true := by kernel_rfl
theorem fo_34_0 : fieldOf Try.prog 34 0 = some (0, 3) := by kernel_rfl
theorem fo_34_1 : fieldOf Try.prog 34 1 = some (1, 33) := by kernel_rfl
theorem zv_34 : zeroVs Try.prog 34 = some [V.sc (.int .i64 0), V.sc (.slice none 0 0)] := by kernel_rfl
theorem zt_34 : zeroT Try.prog 34 = some (.agg #[.int .i64 0, .slice none 0 0]) := by kernel_rfl
theorem sz_35 : szT Try.prog 35 = some 2 := by kernel_rfl
theorem by_35 : byT Try.prog 35 = some 32 := by kernel_rfl
theorem ag_35 : aggT Try.prog 35 = true := by kernel_rfl
theorem kn_35 : knownT Try.prog 35 = true := by kernel_rfl
theorem it_35 : isIntT Try.prog 35 = false := by kernel_rfl
theorem pt_35 : isPtrT Try.prog 35 = false := by kernel_rfl
theorem pl_35 : placesT Try.prog 35 = some [(0, 1), (1, 1)] := by kernel_rfl
theorem sh_35 : shapeT Try.prog 35 = true := by kernel_rfl
theorem fo_35_0 : fieldOf Try.prog 35 0 = some (0, 3) := by kernel_rfl
theorem fo_35_1 : fieldOf Try.prog 35 1 = some (1, 33) := by kernel_rfl
theorem zv_35 : zeroVs Try.prog 35 = some [V.sc (.int .i64 0), V.sc (.slice none 0 0)] := by kernel_rfl
theorem zt_35 : zeroT Try.prog 35 = some (.agg #[.int .i64 0, .slice none 0 0]) := by kernel_rfl
theorem sz_36 : szT Try.prog 36 = some 6 := by kernel_rfl
theorem by_36 : byT Try.prog 36 = some 64 := by kernel_rfl
theorem ag_36 : aggT Try.prog 36 = true := by kernel_rfl
theorem kn_36 : knownT Try.prog 36 = true := by kernel_rfl
theorem it_36 : isIntT Try.prog 36 = false := by kernel_rfl
theorem pt_36 : isPtrT Try.prog 36 = false := by kernel_rfl
theorem pl_36 : placesT Try.prog 36 = some [(0, 1), (1, 1), (2, 1), (3, 1), (4, 2)] := by kernel_rfl
theorem sh_36 : shapeT Try.prog 36 = true := by kernel_rfl
theorem fo_36_0 : fieldOf Try.prog 36 0 = some (0, 3) := by kernel_rfl
theorem fo_36_1 : fieldOf Try.prog 36 1 = some (1, 3) := by kernel_rfl
theorem fo_36_2 : fieldOf Try.prog 36 2 = some (2, 3) := by kernel_rfl
theorem fo_36_3 : fieldOf Try.prog 36 3 = some (3, 32) := by kernel_rfl
theorem fo_36_4 : fieldOf Try.prog 36 4 = some (4, 35) := by kernel_rfl
theorem zv_36 : zeroVs Try.prog 36 = some [V.sc (.int .i64 0), V.sc (.int .i64 0), V.sc (.int .i64 0), V.sc (.int .u32 0), V.sc (.int .i64 0), V.sc (.slice none 0 0)] := by kernel_rfl
theorem zt_36 : zeroT Try.prog 36 = some (.agg #[.int .i64 0, .int .i64 0, .int .i64 0, .int .u32 0, .int .i64 0, .slice none 0 0]) := by kernel_rfl
theorem sz_37 : szT Try.prog 37 = some 6 := by kernel_rfl
theorem by_37 : byT Try.prog 37 = some 64 := by kernel_rfl
theorem ag_37 : aggT Try.prog 37 = true := by kernel_rfl
theorem kn_37 : knownT Try.prog 37 = true := by kernel_rfl
theorem it_37 : isIntT Try.prog 37 = false := by kernel_rfl
theorem pt_37 : isPtrT Try.prog 37 = false := by kernel_rfl
theorem pl_37 : placesT Try.prog 37 = some [(0, 1), (1, 1), (2, 1), (3, 1), (4, 2)] := by kernel_rfl
theorem sh_37 : shapeT Try.prog 37 = true := by kernel_rfl
theorem fo_37_0 : fieldOf Try.prog 37 0 = some (0, 3) := by kernel_rfl
theorem fo_37_1 : fieldOf Try.prog 37 1 = some (1, 3) := by kernel_rfl
theorem fo_37_2 : fieldOf Try.prog 37 2 = some (2, 3) := by kernel_rfl
theorem fo_37_3 : fieldOf Try.prog 37 3 = some (3, 32) := by kernel_rfl
theorem fo_37_4 : fieldOf Try.prog 37 4 = some (4, 35) := by kernel_rfl
theorem zv_37 : zeroVs Try.prog 37 = some [V.sc (.int .i64 0), V.sc (.int .i64 0), V.sc (.int .i64 0), V.sc (.int .u32 0), V.sc (.int .i64 0), V.sc (.slice none 0 0)] := by kernel_rfl
theorem zt_37 : zeroT Try.prog 37 = some (.agg #[.int .i64 0, .int .i64 0, .int .i64 0, .int .u32 0, .int .i64 0, .slice none 0 0]) := by kernel_rfl
theorem sz_38 : szT Try.prog 38 = some 1 := by kernel_rfl
theorem by_38 : byT Try.prog 38 = some 8 := by kernel_rfl
theorem ag_38 : aggT Try.prog 38 = false := by kernel_rfl
theorem kn_38 : knownT Try.prog 38 = true := by kernel_rfl
theorem it_38 : isIntT Try.prog 38 = false := by kernel_rfl
theorem pt_38 : isPtrT Try.prog 38 = false := by kernel_rfl
theorem zv_38 : zeroVs Try.prog 38 = some [V.sc (.nilFunc)] := by kernel_rfl
theorem zt_38 : zeroT Try.prog 38 = some (.nilFunc) := by kernel_rfl
theorem sz_39 : szT Try.prog 39 = some 1 := by kernel_rfl
theorem by_39 : byT Try.prog 39 = some 8 := by kernel_rfl
theorem ag_39 : aggT Try.prog 39 = false := by kernel_rfl
theorem kn_39 : knownT Try.prog 39 = true := by kernel_rfl
theorem it_39 : isIntT Try.prog 39 = false := by kernel_rfl
theorem pt_39 : isPtrT Try.prog 39 = false := by kernel_rfl
theorem zv_39 : zeroVs Try.prog 39 = some [V.sc (.nilFunc)] := by kernel_rfl
theorem zt_39 : zeroT Try.prog 39 = some (.nilFunc) := by kernel_rfl
theorem sz_40 : szT Try.prog 40 = some 2 := by kernel_rfl
theorem by_40 : byT Try.prog 40 = some 32 := by kernel_rfl
theorem ag_40 : aggT Try.prog 40 = true := by kernel_rfl
theorem kn_40 : knownT Try.prog 40 = true := by kernel_rfl
theorem it_40 : isIntT Try.prog 40 = false := by kernel_rfl
theorem pt_40 : isPtrT Try.prog 40 = false := by kernel_rfl
theorem pl_40 : placesT Try.prog 40 = some [(0, 1), (1, 1)] := by kernel_rfl
theorem sh_40 : shapeT Try.prog 40 = true := by kernel_rfl
theorem fo_40_0 : fieldOf Try.prog 40 0 = some (0, 3) := by kernel_rfl
theorem fo_40_1 : fieldOf Try.prog 40 1 = some (1, 33) := by kernel_rfl
theorem zv_40 : zeroVs Try.prog 40 = some [V.sc (.int .i64 0), V.sc (.slice none 0 0)] := by kernel_rfl
theorem zt_40 : zeroT Try.prog 40 = some (.agg #[.int .i64 0, .slice none 0 0]) := by kernel_rfl
theorem sz_42 : szT Try.prog 42 = some 1 := by kernel_rfl
theorem by_42 : byT Try.prog 42 = some 8 := by kernel_rfl
theorem ag_42 : aggT Try.prog 42 = false := by kernel_rfl
theorem kn_42 : knownT Try.prog 42 = true := by kernel_rfl
theorem it_42 : isIntT Try.prog 42 = false := by kernel_rfl
theorem pt_42 : isPtrT Try.prog 42 = false := by kernel_rfl
theorem zv_42 : zeroVs Try.prog 42 = some [V.sc (.nilFunc)] := by kernel_rfl
theorem zt_42 : zeroT Try.prog 42 = some (.nilFunc) := by kernel_rfl
theorem sz_44 : szT Try.prog 44 = some 1 := by kernel_rfl
theorem by_44 : byT Try.prog 44 = some 8 := by kernel_rfl
theorem ag_44 : aggT Try.prog 44 = false := by kernel_rfl
theorem kn_44 : knownT Try.prog 44 = true := by kernel_rfl
theorem it_44 : isIntT Try.prog 44 = false := by kernel_rfl
theorem pt_44 : isPtrT Try.prog 44 = false := by kernel_rfl
theorem zv_44 : zeroVs Try.prog 44 = some [V.sc (.nilFunc)] := by kernel_rfl
theorem zt_44 : zeroT Try.prog 44 = some (.nilFunc) := by kernel_rfl
theorem sz_45 : szT Try.prog 45 = some 1 := by kernel_rfl
theorem by_45 : byT Try.prog 45 = some 8 := by kernel_rfl
theorem ag_45 : aggT Try.prog 45 = false := by kernel_rfl
theorem kn_45 : knownT Try.prog 45 = true := by kernel_rfl
theorem it_45 : isIntT Try.prog 45 = false := by kernel_rfl
theorem pt_45 : isPtrT Try.prog 45 = false := by kernel_rfl
theorem zv_45 : zeroVs Try.prog 45 = some [V.sc (.nilFunc)] := by kernel_rfl
theorem zt_45 : zeroT Try.prog 45 = some (.nilFunc) := by kernel_rfl
theorem sz_46 : szT Try.prog 46 = some 1 := by kernel_rfl
theorem by_46 : byT Try.prog 46 = some 8 := by kernel_rfl
theorem ag_46 : aggT Try.prog 46 = false := by kernel_rfl
theorem kn_46 : knownT Try.prog 46 = true := by kernel_rfl
theorem it_46 : isIntT Try.prog 46 = false := by kernel_rfl
theorem pt_46 : isPtrT Try.prog 46 = false := by kernel_rfl
theorem zv_46 : zeroVs Try.prog 46 = some [V.sc (.nilFunc)] := by kernel_rfl
theorem zt_46 : zeroT Try.prog 46 = some (.nilFunc) := by kernel_rfl
theorem sz_47 : szT Try.prog 47 = some 1 := by kernel_rfl
theorem by_47 : byT Try.prog 47 = some 24 := by kernel_rfl
theorem ag_47 : aggT Try.prog 47 = false := by kernel_rfl
theorem kn_47 : knownT Try.prog 47 = true := by kernel_rfl
theorem it_47 : isIntT Try.prog 47 = false := by kernel_rfl
theorem pt_47 : isPtrT Try.prog 47 = false := by kernel_rfl
theorem zv_47 : zeroVs Try.prog 47 = some [V.sc (.slice none 0 0)] := by kernel_rfl
theorem zt_47 : zeroT Try.prog 47 = some (.slice none 0 0) := by kernel_rfl
theorem sz_48 : szT Try.prog 48 = some 1 := by kernel_rfl
theorem by_48 : byT Try.prog 48 = some 8 := by kernel_rfl
theorem ag_48 : aggT Try.prog 48 = false := by kernel_rfl
theorem kn_48 : knownT Try.prog 48 = true := by kernel_rfl
theorem it_48 : isIntT Try.prog 48 = false := by kernel_rfl
theorem pt_48 : isPtrT Try.prog 48 = false := by kernel_rfl
theorem zv_48 : zeroVs Try.prog 48 = some [V.sc (.nilFunc)] := by kernel_rfl
theorem zt_48 : zeroT Try.prog 48 = some (.nilFunc) := by kernel_rfl
theorem sz_49 : szT Try.prog 49 = some 1 := by kernel_rfl
theorem by_49 : byT Try.prog 49 = some 8 := by kernel_rfl
theorem ag_49 : aggT Try.prog 49 = false := by kernel_rfl
theorem kn_49 : knownT Try.prog 49 = true := by kernel_rfl
theorem it_49 : isIntT Try.prog 49 = false := by kernel_rfl
theorem pt_49 : isPtrT Try.prog 49 = false := by kernel_rfl
theorem zv_49 : zeroVs Try.prog 49 = some [V.sc (.nilFunc)] := by kernel_rfl
theorem zt_49 : zeroT Try.prog 49 = some (.nilFunc) := by kernel_rfl
theorem sz_50 : szT Try.prog 50 = some 1 := by kernel_rfl
theorem by_50 : byT Try.prog 50 = some 8 := by kernel_rfl
theorem ag_50 : aggT Try.prog 50 = false := by kernel_rfl
theorem kn_50 : knownT Try.prog 50 = true := by kernel_rfl
theorem it_50 : isIntT Try.prog 50 = false := by kernel_rfl
theorem pt_50 : isPtrT Try.prog 50 = false := by kernel_rfl
theorem zv_50 : zeroVs Try.prog 50 = some [V.sc (.nilFunc)] := by kernel_rfl
theorem zt_50 : zeroT Try.prog 50 = some (.nilFunc) := by kernel_rfl
theorem sz_51 : szT Try.prog 51 = some 1 := by kernel_rfl
theorem by_51 : byT Try.prog 51 = some 8 := by kernel_rfl
theorem ag_51 : aggT Try.prog 51 = false := by kernel_rfl
theorem kn_51 : knownT Try.prog 51 = true := by kernel_rfl
theorem it_51 : isIntT Try.prog 51 = false := by kernel_rfl
theorem pt_51 : isPtrT Try.prog 51 = false := by kernel_rfl
theorem zv_51 : zeroVs Try.prog 51 = some [V.sc (.nilFunc)] := by kernel_rfl
theorem zt_51 : zeroT Try.prog 51 = some (.nilFunc) := by kernel_rfl
theorem sz_52 : szT Try.prog 52 = some 1 := by kernel_rfl
theorem by_52 : byT Try.prog 52 = some 8 := by kernel_rfl
theorem ag_52 : aggT Try.prog 52 = false := by kernel_rfl
theorem kn_52 : knownT Try.prog 52 = true := by kernel_rfl
theorem it_52 : isIntT Try.prog 52 = false := by kernel_rfl
theorem pt_52 : isPtrT Try.prog 52 = false := by kernel_rfl
theorem zv_52 : zeroVs Try.prog 52 = some [V.sc (.nilFunc)] := by kernel_rfl
theorem zt_52 : zeroT Try.prog 52 = some (.nilFunc) := by kernel_rfl
theorem sz_53 : szT Try.prog 53 = some 3 := by kernel_rfl
theorem by_53 : byT Try.prog 53 = some 24 := by kernel_rfl
theorem ag_53 : aggT Try.prog 53 = true := by kernel_rfl
theorem kn_53 : knownT Try.prog 53 = true := by kernel_rfl
theorem it_53 : isIntT Try.prog 53 = false := by kernel_rfl
theorem pt_53 : isPtrT Try.prog 53 = false := by kernel_rfl
theorem el_53 : elemT Try.prog 53 = some 1 := by kernel_rfl
theorem pl_53 : placesT Try.prog 53 = none := by kernel_rfl
theorem sh_53 : shapeT Try.prog 53 = true := by kernel_rfl
theorem zv_53 : zeroVs Try.prog 53 = some [V.sc (.int .i64 0), V.sc (.int .i64 0), V.sc (.int .i64 0)] := by kernel_rfl
theorem zt_53 : zeroT Try.prog 53 = some (.agg #[.int .i64 0, .int .i64 0, .int .i64 0]) := by kernel_rfl
theorem sz_54 : szT Try.prog 54 = some 3 := by kernel_rfl
theorem by_54 : byT Try.prog 54 = some 24 := by kernel_rfl
theorem ag_54 : aggT Try.prog 54 = true := by kernel_rfl
theorem kn_54 : knownT Try.prog 54 = true := by kernel_rfl
theorem it_54 : isIntT Try.prog 54 = false := by kernel_rfl
theorem pt_54 : isPtrT Try.prog 54 = false := by kernel_rfl
theorem el_54 : elemT Try.prog 54 = some 1 := by kernel_rfl
theorem pl_54 : placesT Try.prog 54 = none := by kernel_rfl
theorem sh_54 : shapeT Try.prog 54 = true := by kernel_rfl
theorem zv_54 : zeroVs Try.prog 54 = some [V.sc (.int .i64 0), V.sc (.int .i64 0), V.sc (.int .i64 0)] := by kernel_rfl
theorem zt_54 : zeroT Try.prog 54 = some (.agg #[.int .i64 0, .int .i64 0, .int .i64 0]) := by kernel_rfl
theorem sz_55 : szT Try.prog 55 = some 1 := by kernel_rfl
theorem by_55 : byT Try.prog 55 = some 24 := by kernel_rfl
theorem ag_55 : aggT Try.prog 55 = false := by kernel_rfl
theorem kn_55 : knownT Try.prog 55 = true := by kernel_rfl
theorem it_55 : isIntT Try.prog 55 = false := by kernel_rfl
theorem pt_55 : isPtrT Try.prog 55 = false := by kernel_rfl
theorem zv_55 : zeroVs Try.prog 55 = some [V.sc (.slice none 0 0)] := by kernel_rfl
theorem zt_55 : zeroT Try.prog 55 = some (.slice none 0 0) := by kernel_rfl
theorem sz_56 : szT Try.prog 56 = some 1 := by kernel_rfl
theorem by_56 : byT Try.prog 56 = some 8 := by kernel_rfl
theorem ag_56 : aggT Try.prog 56 = false := by kernel_rfl
theorem kn_56 : knownT Try.prog 56 = true := by kernel_rfl
theorem it_56 : isIntT Try.prog 56 = true := by kernel_rfl
theorem pt_56 : isPtrT Try.prog 56 = false := by kernel_rfl
theorem zv_56 : zeroVs Try.prog 56 = some [V.sc (.int .i64 0)] := by kernel_rfl
theorem zt_56 : zeroT Try.prog 56 = some (.int .i64 0) := by kernel_rfl
theorem sz_58 : szT Try.prog 58 = some 1 := by kernel_rfl
theorem by_58 : byT Try.prog 58 = some 8 := by kernel_rfl
theorem ag_58 : aggT Try.prog 58 = false := by kernel_rfl
theorem kn_58 : knownT Try.prog 58 = true := by kernel_rfl
theorem it_58 : isIntT Try.prog 58 = false := by kernel_rfl
theorem pt_58 : isPtrT Try.prog 58 = false := by kernel_rfl
theorem zv_58 : zeroVs Try.prog 58 = some [V.sc (.nilFunc)] := by kernel_rfl
theorem zt_58 : zeroT Try.prog 58 = some (.nilFunc) := by kernel_rfl
theorem sz_60 : szT Try.prog 60 = some 1 := by kernel_rfl
theorem by_60 : byT Try.prog 60 = some 8 := by kernel_rfl
theorem ag_60 : aggT Try.prog 60 = false := by kernel_rfl
theorem kn_60 : knownT Try.prog 60 = true := by kernel_rfl
theorem it_60 : isIntT Try.prog 60 = false := by kernel_rfl
theorem pt_60 : isPtrT Try.prog 60 = false := by kernel_rfl
theorem zv_60 : zeroVs Try.prog 60 = some [V.sc (.nilFunc)] := by kernel_rfl
theorem zt_60 : zeroT Try.prog 60 = some (.nilFunc) := by kernel_rfl
theorem sz_62 : szT Try.prog 62 = some 1 := by kernel_rfl
theorem by_62 : byT Try.prog 62 = some 8 := by kernel_rfl
theorem ag_62 : aggT Try.prog 62 = false := by kernel_rfl
theorem kn_62 : knownT Try.prog 62 = true := by kernel_rfl
theorem it_62 : isIntT Try.prog 62 = false := by kernel_rfl
theorem pt_62 : isPtrT Try.prog 62 = false := by kernel_rfl
theorem zv_62 : zeroVs Try.prog 62 = some [V.sc (.nilFunc)] := by kernel_rfl
theorem zt_62 : zeroT Try.prog 62 = some (.nilFunc) := by kernel_rfl
theorem sz_63 : szT Try.prog 63 = some 1 := by kernel_rfl
theorem by_63 : byT Try.prog 63 = some 8 := by kernel_rfl
theorem ag_63 : aggT Try.prog 63 = false := by kernel_rfl
theorem kn_63 : knownT Try.prog 63 = true := by kernel_rfl
theorem it_63 : isIntT Try.prog 63 = false := by kernel_rfl
theorem pt_63 : isPtrT Try.prog 63 = false := by kernel_rfl
theorem zv_63 : zeroVs Try.prog 63 = some [V.sc (.nilFunc)] := by kernel_rfl
theorem zt_63 : zeroT Try.prog 63 = some (.nilFunc) := by kernel_rfl
theorem sz_64 : szT Try.prog 64 = some 1 := by kernel_rfl
theorem by_64 : byT Try.prog 64 = some 8 := by kernel_rfl
theorem ag_64 : aggT Try.prog 64 = false := by kernel_rfl
theorem kn_64 : knownT Try.prog 64 = true := by kernel_rfl
theorem it_64 : isIntT Try.prog 64 = false := by kernel_rfl
theorem pt_64 : isPtrT Try.prog 64 = false := by kernel_rfl
theorem zv_64 : zeroVs Try.prog 64 = some [V.sc (.nilFunc)] := by kernel_rfl
theorem zt_64 : zeroT Try.prog 64 = some (.nilFunc) := by kernel_rfl
theorem sz_65 : szT Try.prog 65 = some 1 := by kernel_rfl
theorem by_65 : byT Try.prog 65 = some 8 := by kernel_rfl
theorem ag_65 : aggT Try.prog 65 = false := by kernel_rfl
theorem kn_65 : knownT Try.prog 65 = true := by kernel_rfl
theorem it_65 : isIntT Try.prog 65 = false := by kernel_rfl
theorem pt_65 : isPtrT Try.prog 65 = false := by kernel_rfl
theorem zv_65 : zeroVs Try.prog 65 = some [V.sc (.nilFunc)] := by kernel_rfl
theorem zt_65 : zeroT Try.prog 65 = some (.nilFunc) := by kernel_rfl
theorem sz_66 : szT Try.prog 66 = some 1 := by kernel_rfl
theorem by_66 : byT Try.prog 66 = some 8 := by kernel_rfl
theorem ag_66 : aggT Try.prog 66 = false := by kernel_rfl
theorem kn_66 : knownT Try.prog 66 = true := by kernel_rfl
theorem it_66 : isIntT Try.prog 66 = false := by kernel_rfl
theorem pt_66 : isPtrT Try.prog 66 = false := by kernel_rfl
theorem zv_66 : zeroVs Try.prog 66 = some [V.sc (.nilFunc)] := by kernel_rfl
theorem zt_66 : zeroT Try.prog 66 = some (.nilFunc) := by kernel_rfl
theorem sz_67 : szT Try.prog 67 = some 1 := by kernel_rfl
theorem by_67 : byT Try.prog 67 = some 8 := by kernel_rfl
theorem ag_67 : aggT Try.prog 67 = false := by kernel_rfl
theorem kn_67 : knownT Try.prog 67 = true := by kernel_rfl
theorem it_67 : isIntT Try.prog 67 = false := by kernel_rfl
theorem pt_67 : isPtrT Try.prog 67 = false := by kernel_rfl
theorem zv_67 : zeroVs Try.prog 67 = some [V.sc (.nilFunc)] := by kernel_rfl
theorem zt_67 : zeroT Try.prog 67 = some (.nilFunc) := by kernel_rfl
theorem sz_68 : szT Try.prog 68 = some 1 := by kernel_rfl
theorem by_68 : byT Try.prog 68 = some 8 := by kernel_rfl
theorem ag_68 : aggT Try.prog 68 = false := by kernel_rfl
theorem kn_68 : knownT Try.prog 68 = true := by kernel_rfl
theorem it_68 : isIntT Try.prog 68 = false := by kernel_rfl
theorem pt_68 : isPtrT Try.prog 68 = false := by kernel_rfl
theorem zv_68 : zeroVs Try.prog 68 = some [V.sc (.nilFunc)] := by kernel_rfl
theorem zt_68 : zeroT Try.prog 68 = some (.nilFunc) := by kernel_rfl
theorem sz_69 : szT Try.prog 69 = some 1 := by kernel_rfl
theorem by_69 : byT Try.prog 69 = some 8 := by kernel_rfl
theorem ag_69 : aggT Try.prog 69 = false := by kernel_rfl
theorem kn_69 : knownT Try.prog 69 = true := by kernel_rfl
theorem it_69 : isIntT Try.prog 69 = false := by kernel_rfl
theorem pt_69 : isPtrT Try.prog 69 = false := by kernel_rfl
theorem zv_69 : zeroVs Try.prog 69 = some [V.sc (.nilFunc)] := by kernel_rfl
theorem zt_69 : zeroT Try.prog 69 = some (.nilFunc) := by kernel_rfl
theorem sz_70 : szT Try.prog 70 = some 1 := by kernel_rfl
theorem by_70 : byT Try.prog 70 = some 8 := by kernel_rfl
theorem ag_70 : aggT Try.prog 70 = false := by kernel_rfl
theorem kn_70 : knownT Try.prog 70 = true := by kernel_rfl
theorem it_70 : isIntT Try.prog 70 = false := by kernel_rfl
theorem pt_70 : isPtrT Try.prog 70 = false := by kernel_rfl
theorem zv_70 : zeroVs Try.prog 70 = some [V.sc (.nilFunc)] := by kernel_rfl
theorem zt_70 : zeroT Try.prog 70 = some (.nilFunc) := by kernel_rfl
theorem sz_71 : szT Try.prog 71 = some 1 := by kernel_rfl
theorem by_71 : byT Try.prog 71 = some 24 := by kernel_rfl
theorem ag_71 : aggT Try.prog 71 = false := by kernel_rfl
theorem kn_71 : knownT Try.prog 71 = true := by kernel_rfl
theorem it_71 : isIntT Try.prog 71 = false := by kernel_rfl
theorem pt_71 : isPtrT Try.prog 71 = false := by kernel_rfl
theorem zv_71 : zeroVs Try.prog 71 = some [V.sc (.slice none 0 0)] := by kernel_rfl
theorem zt_71 : zeroT Try.prog 71 = some (.slice none 0 0) := by kernel_rfl
theorem sz_72 : szT Try.prog 72 = some 1 := by kernel_rfl
theorem by_72 : byT Try.prog 72 = some 8 := by kernel_rfl
theorem ag_72 : aggT Try.prog 72 = false := by kernel_rfl
theorem kn_72 : knownT Try.prog 72 = true := by kernel_rfl
theorem it_72 : isIntT Try.prog 72 = false := by kernel_rfl
theorem pt_72 : isPtrT Try.prog 72 = false := by kernel_rfl
theorem zv_72 : zeroVs Try.prog 72 = some [V.sc (.nilFunc)] := by kernel_rfl
theorem zt_72 : zeroT Try.prog 72 = some (.nilFunc) := by kernel_rfl
theorem sz_73 : szT Try.prog 73 = some 1 := by kernel_rfl
theorem by_73 : byT Try.prog 73 = some 8 := by kernel_rfl
theorem ag_73 : aggT Try.prog 73 = false := by kernel_rfl
theorem kn_73 : knownT Try.prog 73 = true := by kernel_rfl
theorem it_73 : isIntT Try.prog 73 = false := by kernel_rfl
theorem pt_73 : isPtrT Try.prog 73 = true := by kernel_rfl
theorem zv_73 : zeroVs Try.prog 73 = some [V.sc (.pointer none)] := by kernel_rfl
theorem zt_73 : zeroT Try.prog 73 = some (.pointer none) := by kernel_rfl
theorem sz_74 : szT Try.prog 74 = some 1 := by kernel_rfl
theorem by_74 : byT Try.prog 74 = some 8 := by kernel_rfl
theorem ag_74 : aggT Try.prog 74 = false := by kernel_rfl
theorem kn_74 : knownT Try.prog 74 = true := by kernel_rfl
theorem it_74 : isIntT Try.prog 74 = false := by kernel_rfl
theorem pt_74 : isPtrT Try.prog 74 = false := by kernel_rfl
theorem zv_74 : zeroVs Try.prog 74 = some [V.sc (.nilFunc)] := by kernel_rfl
theorem zt_74 : zeroT Try.prog 74 = some (.nilFunc) := by kernel_rfl
theorem sz_75 : szT Try.prog 75 = some 1 := by kernel_rfl
theorem by_75 : byT Try.prog 75 = some 8 := by kernel_rfl
theorem ag_75 : aggT Try.prog 75 = false := by kernel_rfl
theorem kn_75 : knownT Try.prog 75 = true := by kernel_rfl
theorem it_75 : isIntT Try.prog 75 = false := by kernel_rfl
theorem pt_75 : isPtrT Try.prog 75 = true := by kernel_rfl
theorem zv_75 : zeroVs Try.prog 75 = some [V.sc (.pointer none)] := by kernel_rfl
theorem zt_75 : zeroT Try.prog 75 = some (.pointer none) := by kernel_rfl
theorem sz_76 : szT Try.prog 76 = some 1 := by kernel_rfl
theorem by_76 : byT Try.prog 76 = some 24 := by kernel_rfl
theorem ag_76 : aggT Try.prog 76 = false := by kernel_rfl
theorem kn_76 : knownT Try.prog 76 = true := by kernel_rfl
theorem it_76 : isIntT Try.prog 76 = false := by kernel_rfl
theorem pt_76 : isPtrT Try.prog 76 = false := by kernel_rfl
theorem zv_76 : zeroVs Try.prog 76 = some [V.sc (.slice none 0 0)] := by kernel_rfl
theorem zt_76 : zeroT Try.prog 76 = some (.slice none 0 0) := by kernel_rfl
theorem sz_77 : szT Try.prog 77 = some 1 := by kernel_rfl
theorem by_77 : byT Try.prog 77 = some 24 := by kernel_rfl
theorem ag_77 : aggT Try.prog 77 = false := by kernel_rfl
theorem kn_77 : knownT Try.prog 77 = true := by kernel_rfl
theorem it_77 : isIntT Try.prog 77 = false := by kernel_rfl
theorem pt_77 : isPtrT Try.prog 77 = false := by kernel_rfl
theorem zv_77 : zeroVs Try.prog 77 = some [V.sc (.slice none 0 0)] := by kernel_rfl
theorem zt_77 : zeroT Try.prog 77 = some (.slice none 0 0) := by kernel_rfl
theorem sz_78 : szT Try.prog 78 = some 3 := by kernel_rfl
theorem by_78 : byT Try.prog 78 = some 56 := by kernel_rfl
theorem ag_78 : aggT Try.prog 78 = true := by kernel_rfl
theorem kn_78 : knownT Try.prog 78 = true := by kernel_rfl
theorem it_78 : isIntT Try.prog 78 = false := by kernel_rfl
theorem pt_78 : isPtrT Try.prog 78 = false := by kernel_rfl
theorem pl_78 : placesT Try.prog 78 = some [(0, 1), (1, 1), (2, 1)] := by kernel_rfl
theorem sh_78 : shapeT Try.prog 78 = true := by kernel_rfl
theorem fo_78_0 : fieldOf Try.prog 78 0 = some (0, 76) := by kernel_rfl
theorem fo_78_1 : fieldOf Try.prog 78 1 = some (1, 77) := by kernel_rfl
theorem fo_78_2 : fieldOf Try.prog 78 2 = some (2, 3) := by kernel_rfl
theorem zv_78 : zeroVs Try.prog 78 = some [V.sc (.slice none 0 0), V.sc (.slice none 0 0), V.sc (.int .i64 0)] := by kernel_rfl
theorem zt_78 : zeroT Try.prog 78 = some (.agg #[.slice none 0 0, .slice none 0 0, .int .i64 0]) := by kernel_rfl
theorem sz_79 : szT Try.prog 79 = some 3 := by kernel_rfl
theorem by_79 : byT Try.prog 79 = some 56 := by kernel_rfl
theorem ag_79 : aggT Try.prog 79 = true := by kernel_rfl
theorem kn_79 : knownT Try.prog 79 = true := by kernel_rfl
theorem it_79 : isIntT Try.prog 79 = false := by kernel_rfl
theorem pt_79 : isPtrT Try.prog 79 = false := by kernel_rfl
theorem pl_79 : placesT Try.prog 79 = some [(0, 1), (1, 1), (2, 1)] := by kernel_rfl
theorem sh_79 : shapeT Try.prog 79 = true := by kernel_rfl
theorem fo_79_0 : fieldOf Try.prog 79 0 = some (0, 76) := by kernel_rfl
theorem fo_79_1 : fieldOf Try.prog 79 1 = some (1, 77) := by kernel_rfl
theorem fo_79_2 : fieldOf Try.prog 79 2 = some (2, 3) := by kernel_rfl
theorem zv_79 : zeroVs Try.prog 79 = some [V.sc (.slice none 0 0), V.sc (.slice none 0 0), V.sc (.int .i64 0)] := by kernel_rfl
theorem zt_79 : zeroT Try.prog 79 = some (.agg #[.slice none 0 0, .slice none 0 0, .int .i64 0]) := by kernel_rfl
theorem sz_80 : szT Try.prog 80 = some 3 := by kernel_rfl
theorem by_80 : byT Try.prog 80 = some 48 := by kernel_rfl
theorem ag_80 : aggT Try.prog 80 = true := by kernel_rfl
theorem kn_80 : knownT Try.prog 80 = true := by kernel_rfl
theorem it_80 : isIntT Try.prog 80 = false := by kernel_rfl
theorem pt_80 : isPtrT Try.prog 80 = false := by kernel_rfl
theorem pl_80 : placesT Try.prog 80 = some [(0, 1), (1, 1), (2, 1)] := by kernel_rfl
theorem sh_80 : shapeT Try.prog 80 = true := by kernel_rfl
theorem fo_80_0 : fieldOf Try.prog 80 0 = some (0, 3) := by kernel_rfl
theorem fo_80_1 : fieldOf Try.prog 80 1 = some (1, 9) := by kernel_rfl
theorem fo_80_2 : fieldOf Try.prog 80 2 = some (2, 33) := by kernel_rfl
theorem zv_80 : zeroVs Try.prog 80 = some [V.sc (.int .i64 0), V.sc (.string ⟨#[]⟩), V.sc (.slice none 0 0)] := by kernel_rfl
theorem zt_80 : zeroT Try.prog 80 = some (.agg #[.int .i64 0, .string ⟨#[]⟩, .slice none 0 0]) := by kernel_rfl
theorem sz_81 : szT Try.prog 81 = some 3 := by kernel_rfl
theorem by_81 : byT Try.prog 81 = some 48 := by kernel_rfl
theorem ag_81 : aggT Try.prog 81 = true := by kernel_rfl
theorem kn_81 : knownT Try.prog 81 = true := by kernel_rfl
theorem it_81 : isIntT Try.prog 81 = false := by kernel_rfl
theorem pt_81 : isPtrT Try.prog 81 = false := by kernel_rfl
theorem pl_81 : placesT Try.prog 81 = some [(0, 1), (1, 1), (2, 1)] := by kernel_rfl
theorem sh_81 : shapeT Try.prog 81 = true := by kernel_rfl
theorem fo_81_0 : fieldOf Try.prog 81 0 = some (0, 3) := by kernel_rfl
theorem fo_81_1 : fieldOf Try.prog 81 1 = some (1, 9) := by kernel_rfl
theorem fo_81_2 : fieldOf Try.prog 81 2 = some (2, 33) := by kernel_rfl
theorem zv_81 : zeroVs Try.prog 81 = some [V.sc (.int .i64 0), V.sc (.string ⟨#[]⟩), V.sc (.slice none 0 0)] := by kernel_rfl
theorem zt_81 : zeroT Try.prog 81 = some (.agg #[.int .i64 0, .string ⟨#[]⟩, .slice none 0 0]) := by kernel_rfl
theorem sz_82 : szT Try.prog 82 = some 1 := by kernel_rfl
theorem by_82 : byT Try.prog 82 = some 8 := by kernel_rfl
theorem ag_82 : aggT Try.prog 82 = false := by kernel_rfl
theorem kn_82 : knownT Try.prog 82 = true := by kernel_rfl
theorem it_82 : isIntT Try.prog 82 = false := by kernel_rfl
theorem pt_82 : isPtrT Try.prog 82 = false := by kernel_rfl
theorem zv_82 : zeroVs Try.prog 82 = some [V.sc (.nilFunc)] := by kernel_rfl
theorem zt_82 : zeroT Try.prog 82 = some (.nilFunc) := by kernel_rfl
theorem sz_84 : szT Try.prog 84 = some 1 := by kernel_rfl
theorem by_84 : byT Try.prog 84 = some 8 := by kernel_rfl
theorem ag_84 : aggT Try.prog 84 = false := by kernel_rfl
theorem kn_84 : knownT Try.prog 84 = true := by kernel_rfl
theorem it_84 : isIntT Try.prog 84 = false := by kernel_rfl
theorem pt_84 : isPtrT Try.prog 84 = false := by kernel_rfl
theorem zv_84 : zeroVs Try.prog 84 = some [V.sc (.nilFunc)] := by kernel_rfl
theorem zt_84 : zeroT Try.prog 84 = some (.nilFunc) := by kernel_rfl
theorem sz_85 : szT Try.prog 85 = some 1 := by kernel_rfl
theorem by_85 : byT Try.prog 85 = some 8 := by kernel_rfl
theorem ag_85 : aggT Try.prog 85 = false := by kernel_rfl
theorem kn_85 : knownT Try.prog 85 = true := by kernel_rfl
theorem it_85 : isIntT Try.prog 85 = false := by kernel_rfl
theorem pt_85 : isPtrT Try.prog 85 = false := by kernel_rfl
theorem zv_85 : zeroVs Try.prog 85 = some [V.sc (.nilFunc)] := by kernel_rfl
theorem zt_85 : zeroT Try.prog 85 = some (.nilFunc) := by kernel_rfl
theorem sz_86 : szT Try.prog 86 = some 1 := by kernel_rfl
theorem by_86 : byT Try.prog 86 = some 8 := by kernel_rfl
theorem ag_86 : aggT Try.prog 86 = false := by kernel_rfl
theorem kn_86 : knownT Try.prog 86 = true := by kernel_rfl
theorem it_86 : isIntT Try.prog 86 = false := by kernel_rfl
theorem pt_86 : isPtrT Try.prog 86 = false := by kernel_rfl
theorem zv_86 : zeroVs Try.prog 86 = some [V.sc (.nilFunc)] := by kernel_rfl
theorem zt_86 : zeroT Try.prog 86 = some (.nilFunc) := by kernel_rfl
theorem sz_87 : szT Try.prog 87 = some 1 := by kernel_rfl
theorem by_87 : byT Try.prog 87 = some 8 := by kernel_rfl
theorem ag_87 : aggT Try.prog 87 = false := by kernel_rfl
theorem kn_87 : knownT Try.prog 87 = true := by kernel_rfl
theorem it_87 : isIntT Try.prog 87 = false := by kernel_rfl
theorem pt_87 : isPtrT Try.prog 87 = false := by kernel_rfl
theorem zv_87 : zeroVs Try.prog 87 = some [V.sc (.nilFunc)] := by kernel_rfl
theorem zt_87 : zeroT Try.prog 87 = some (.nilFunc) := by kernel_rfl
theorem sz_88 : szT Try.prog 88 = some 3 := by kernel_rfl
theorem by_88 : byT Try.prog 88 = some 40 := by kernel_rfl
theorem ag_88 : aggT Try.prog 88 = true := by kernel_rfl
theorem kn_88 : knownT Try.prog 88 = true := by kernel_rfl
theorem it_88 : isIntT Try.prog 88 = false := by kernel_rfl
theorem pt_88 : isPtrT Try.prog 88 = false := by kernel_rfl
theorem pl_88 : placesT Try.prog 88 = some [(0, 2), (2, 1)] := by kernel_rfl
theorem sh_88 : shapeT Try.prog 88 = true := by kernel_rfl
theorem fo_88_0 : fieldOf Try.prog 88 0 = some (0, 35) := by kernel_rfl
theorem fo_88_1 : fieldOf Try.prog 88 1 = some (2, 4) := by kernel_rfl
theorem zv_88 : zeroVs Try.prog 88 = some [V.sc (.int .i64 0), V.sc (.slice none 0 0), V.sc (.bool false)] := by kernel_rfl
theorem zt_88 : zeroT Try.prog 88 = some (.agg #[.int .i64 0, .slice none 0 0, .bool false]) := by kernel_rfl
theorem sz_89 : szT Try.prog 89 = some 3 := by kernel_rfl
theorem by_89 : byT Try.prog 89 = some 40 := by kernel_rfl
theorem ag_89 : aggT Try.prog 89 = true := by kernel_rfl
theorem kn_89 : knownT Try.prog 89 = true := by kernel_rfl
theorem it_89 : isIntT Try.prog 89 = false := by kernel_rfl
theorem pt_89 : isPtrT Try.prog 89 = false := by kernel_rfl
theorem pl_89 : placesT Try.prog 89 = some [(0, 2), (2, 1)] := by kernel_rfl
theorem sh_89 : shapeT Try.prog 89 = true := by kernel_rfl
theorem fo_89_0 : fieldOf Try.prog 89 0 = some (0, 35) := by kernel_rfl
theorem fo_89_1 : fieldOf Try.prog 89 1 = some (2, 4) := by kernel_rfl
theorem zv_89 : zeroVs Try.prog 89 = some [V.sc (.int .i64 0), V.sc (.slice none 0 0), V.sc (.bool false)] := by kernel_rfl
theorem zt_89 : zeroT Try.prog 89 = some (.agg #[.int .i64 0, .slice none 0 0, .bool false]) := by kernel_rfl
theorem sz_90 : szT Try.prog 90 = some 192 := by kernel_rfl
theorem by_90 : byT Try.prog 90 = some 2560 := by kernel_rfl
theorem ag_90 : aggT Try.prog 90 = true := by kernel_rfl
theorem kn_90 : knownT Try.prog 90 = true := by kernel_rfl
theorem it_90 : isIntT Try.prog 90 = false := by kernel_rfl
theorem pt_90 : isPtrT Try.prog 90 = false := by kernel_rfl
theorem el_90 : elemT Try.prog 90 = some 3 := by kernel_rfl
theorem pl_90 : placesT Try.prog 90 = none := by kernel_rfl
theorem sh_90 : shapeT Try.prog 90 = true := by kernel_rfl
theorem sz_91 : szT Try.prog 91 = some 193 := by kernel_rfl
theorem by_91 : byT Try.prog 91 = some 2568 := by kernel_rfl
theorem ag_91 : aggT Try.prog 91 = true := by kernel_rfl
theorem kn_91 : knownT Try.prog 91 = true := by kernel_rfl
theorem it_91 : isIntT Try.prog 91 = false := by kernel_rfl
theorem pt_91 : isPtrT Try.prog 91 = false := by kernel_rfl
theorem pl_91 : placesT Try.prog 91 = some [(0, 192), (192, 1)] := by kernel_rfl
theorem sh_91 : shapeT Try.prog 91 = true := by kernel_rfl
theorem fo_91_0 : fieldOf Try.prog 91 0 = some (0, 90) := by kernel_rfl
theorem fo_91_1 : fieldOf Try.prog 91 1 = some (192, 3) := by kernel_rfl
theorem sz_92 : szT Try.prog 92 = some 193 := by kernel_rfl
theorem by_92 : byT Try.prog 92 = some 2568 := by kernel_rfl
theorem ag_92 : aggT Try.prog 92 = true := by kernel_rfl
theorem kn_92 : knownT Try.prog 92 = true := by kernel_rfl
theorem it_92 : isIntT Try.prog 92 = false := by kernel_rfl
theorem pt_92 : isPtrT Try.prog 92 = false := by kernel_rfl
theorem pl_92 : placesT Try.prog 92 = some [(0, 192), (192, 1)] := by kernel_rfl
theorem sh_92 : shapeT Try.prog 92 = true := by kernel_rfl
theorem fo_92_0 : fieldOf Try.prog 92 0 = some (0, 90) := by kernel_rfl
theorem fo_92_1 : fieldOf Try.prog 92 1 = some (192, 3) := by kernel_rfl
theorem sz_93 : szT Try.prog 93 = some 1 := by kernel_rfl
theorem by_93 : byT Try.prog 93 = some 8 := by kernel_rfl
theorem ag_93 : aggT Try.prog 93 = false := by kernel_rfl
theorem kn_93 : knownT Try.prog 93 = true := by kernel_rfl
theorem it_93 : isIntT Try.prog 93 = false := by kernel_rfl
theorem pt_93 : isPtrT Try.prog 93 = false := by kernel_rfl
theorem zv_93 : zeroVs Try.prog 93 = some [V.sc (.nilFunc)] := by kernel_rfl
theorem zt_93 : zeroT Try.prog 93 = some (.nilFunc) := by kernel_rfl
theorem sz_94 : szT Try.prog 94 = some 1 := by kernel_rfl
theorem by_94 : byT Try.prog 94 = some 8 := by kernel_rfl
theorem ag_94 : aggT Try.prog 94 = false := by kernel_rfl
theorem kn_94 : knownT Try.prog 94 = true := by kernel_rfl
theorem it_94 : isIntT Try.prog 94 = false := by kernel_rfl
theorem pt_94 : isPtrT Try.prog 94 = true := by kernel_rfl
theorem zv_94 : zeroVs Try.prog 94 = some [V.sc (.pointer none)] := by kernel_rfl
theorem zt_94 : zeroT Try.prog 94 = some (.pointer none) := by kernel_rfl
theorem sz_95 : szT Try.prog 95 = some 1 := by kernel_rfl
theorem by_95 : byT Try.prog 95 = some 8 := by kernel_rfl
theorem ag_95 : aggT Try.prog 95 = false := by kernel_rfl
theorem kn_95 : knownT Try.prog 95 = true := by kernel_rfl
theorem it_95 : isIntT Try.prog 95 = false := by kernel_rfl
theorem pt_95 : isPtrT Try.prog 95 = false := by kernel_rfl
theorem zv_95 : zeroVs Try.prog 95 = some [V.sc (.nilFunc)] := by kernel_rfl
theorem zt_95 : zeroT Try.prog 95 = some (.nilFunc) := by kernel_rfl
theorem sz_96 : szT Try.prog 96 = some 1 := by kernel_rfl
theorem by_96 : byT Try.prog 96 = some 24 := by kernel_rfl
theorem ag_96 : aggT Try.prog 96 = false := by kernel_rfl
theorem kn_96 : knownT Try.prog 96 = true := by kernel_rfl
theorem it_96 : isIntT Try.prog 96 = false := by kernel_rfl
theorem pt_96 : isPtrT Try.prog 96 = false := by kernel_rfl
theorem zv_96 : zeroVs Try.prog 96 = some [V.sc (.slice none 0 0)] := by kernel_rfl
theorem zt_96 : zeroT Try.prog 96 = some (.slice none 0 0) := by kernel_rfl
theorem sz_97 : szT Try.prog 97 = some 1 := by kernel_rfl
theorem by_97 : byT Try.prog 97 = some 8 := by kernel_rfl
theorem ag_97 : aggT Try.prog 97 = false := by kernel_rfl
theorem kn_97 : knownT Try.prog 97 = true := by kernel_rfl
theorem it_97 : isIntT Try.prog 97 = false := by kernel_rfl
theorem pt_97 : isPtrT Try.prog 97 = false := by kernel_rfl
theorem zv_97 : zeroVs Try.prog 97 = some [V.sc (.nilFunc)] := by kernel_rfl
theorem zt_97 : zeroT Try.prog 97 = some (.nilFunc) := by kernel_rfl
theorem sz_98 : szT Try.prog 98 = some 1 := by kernel_rfl
theorem by_98 : byT Try.prog 98 = some 8 := by kernel_rfl
theorem ag_98 : aggT Try.prog 98 = false := by kernel_rfl
theorem kn_98 : knownT Try.prog 98 = true := by kernel_rfl
theorem it_98 : isIntT Try.prog 98 = false := by kernel_rfl
theorem pt_98 : isPtrT Try.prog 98 = false := by kernel_rfl
theorem zv_98 : zeroVs Try.prog 98 = some [V.sc (.nilFunc)] := by kernel_rfl
theorem zt_98 : zeroT Try.prog 98 = some (.nilFunc) := by kernel_rfl
theorem sz_99 : szT Try.prog 99 = some 1 := by kernel_rfl
theorem by_99 : byT Try.prog 99 = some 8 := by kernel_rfl
theorem ag_99 : aggT Try.prog 99 = false := by kernel_rfl
theorem kn_99 : knownT Try.prog 99 = true := by kernel_rfl
theorem it_99 : isIntT Try.prog 99 = false := by kernel_rfl
theorem pt_99 : isPtrT Try.prog 99 = false := by kernel_rfl
theorem zv_99 : zeroVs Try.prog 99 = some [V.sc (.nilFunc)] := by kernel_rfl
theorem zt_99 : zeroT Try.prog 99 = some (.nilFunc) := by kernel_rfl
theorem sz_100 : szT Try.prog 100 = some 1 := by kernel_rfl
theorem by_100 : byT Try.prog 100 = some 8 := by kernel_rfl
theorem ag_100 : aggT Try.prog 100 = false := by kernel_rfl
theorem kn_100 : knownT Try.prog 100 = true := by kernel_rfl
theorem it_100 : isIntT Try.prog 100 = false := by kernel_rfl
theorem pt_100 : isPtrT Try.prog 100 = false := by kernel_rfl
theorem zv_100 : zeroVs Try.prog 100 = some [V.sc (.nilFunc)] := by kernel_rfl
theorem zt_100 : zeroT Try.prog 100 = some (.nilFunc) := by kernel_rfl
theorem sz_101 : szT Try.prog 101 = some 1 := by kernel_rfl
theorem by_101 : byT Try.prog 101 = some 8 := by kernel_rfl
theorem ag_101 : aggT Try.prog 101 = false := by kernel_rfl
theorem kn_101 : knownT Try.prog 101 = true := by kernel_rfl
theorem it_101 : isIntT Try.prog 101 = true := by kernel_rfl
theorem pt_101 : isPtrT Try.prog 101 = false := by kernel_rfl
theorem zv_101 : zeroVs Try.prog 101 = some [V.sc (.int .u64 0)] := by kernel_rfl
theorem zt_101 : zeroT Try.prog 101 = some (.int .u64 0) := by kernel_rfl
theorem sz_102 : szT Try.prog 102 = some 1 := by kernel_rfl
theorem by_102 : byT Try.prog 102 = some 8 := by kernel_rfl
theorem ag_102 : aggT Try.prog 102 = false := by kernel_rfl
theorem kn_102 : knownT Try.prog 102 = true := by kernel_rfl
theorem it_102 : isIntT Try.prog 102 = false := by kernel_rfl
theorem pt_102 : isPtrT Try.prog 102 = false := by kernel_rfl
theorem zv_102 : zeroVs Try.prog 102 = some [V.sc (.nilFunc)] := by kernel_rfl
theorem zt_102 : zeroT Try.prog 102 = some (.nilFunc) := by kernel_rfl
theorem sz_104 : szT Try.prog 104 = some 1 := by kernel_rfl
theorem by_104 : byT Try.prog 104 = some 8 := by kernel_rfl
theorem ag_104 : aggT Try.prog 104 = false := by kernel_rfl
theorem kn_104 : knownT Try.prog 104 = true := by kernel_rfl
theorem it_104 : isIntT Try.prog 104 = false := by kernel_rfl
theorem pt_104 : isPtrT Try.prog 104 = false := by kernel_rfl
theorem zv_104 : zeroVs Try.prog 104 = some [V.sc (.nilFunc)] := by kernel_rfl
theorem zt_104 : zeroT Try.prog 104 = some (.nilFunc) := by kernel_rfl
theorem sz_106 : szT Try.prog 106 = some 1 := by kernel_rfl
theorem by_106 : byT Try.prog 106 = some 8 := by kernel_rfl
theorem ag_106 : aggT Try.prog 106 = false := by kernel_rfl
theorem kn_106 : knownT Try.prog 106 = true := by kernel_rfl
theorem it_106 : isIntT Try.prog 106 = false := by kernel_rfl
theorem pt_106 : isPtrT Try.prog 106 = false := by kernel_rfl
theorem zv_106 : zeroVs Try.prog 106 = some [V.sc (.nilFunc)] := by kernel_rfl
theorem zt_106 : zeroT Try.prog 106 = some (.nilFunc) := by kernel_rfl
theorem sz_107 : szT Try.prog 107 = some 1 := by kernel_rfl
theorem by_107 : byT Try.prog 107 = some 8 := by kernel_rfl
theorem ag_107 : aggT Try.prog 107 = false := by kernel_rfl
theorem kn_107 : knownT Try.prog 107 = true := by kernel_rfl
theorem it_107 : isIntT Try.prog 107 = false := by kernel_rfl
theorem pt_107 : isPtrT Try.prog 107 = false := by kernel_rfl
theorem zv_107 : zeroVs Try.prog 107 = some [V.sc (.nilFunc)] := by kernel_rfl
theorem zt_107 : zeroT Try.prog 107 = some (.nilFunc) := by kernel_rfl
theorem sz_108 : szT Try.prog 108 = some 1 := by kernel_rfl
theorem by_108 : byT Try.prog 108 = some 8 := by kernel_rfl
theorem ag_108 : aggT Try.prog 108 = false := by kernel_rfl
theorem kn_108 : knownT Try.prog 108 = true := by kernel_rfl
theorem it_108 : isIntT Try.prog 108 = false := by kernel_rfl
theorem pt_108 : isPtrT Try.prog 108 = false := by kernel_rfl
theorem zv_108 : zeroVs Try.prog 108 = some [V.sc (.map none)] := by kernel_rfl
theorem zt_108 : zeroT Try.prog 108 = some (.map none) := by kernel_rfl
theorem sz_109 : szT Try.prog 109 = some 3 := by kernel_rfl
theorem by_109 : byT Try.prog 109 = some 40 := by kernel_rfl
theorem ag_109 : aggT Try.prog 109 = true := by kernel_rfl
theorem kn_109 : knownT Try.prog 109 = true := by kernel_rfl
theorem it_109 : isIntT Try.prog 109 = false := by kernel_rfl
theorem pt_109 : isPtrT Try.prog 109 = false := by kernel_rfl
theorem pl_109 : placesT Try.prog 109 = some [(0, 1), (1, 1), (2, 1)] := by kernel_rfl
theorem sh_109 : shapeT Try.prog 109 = true := by kernel_rfl
theorem fo_109_0 : fieldOf Try.prog 109 0 = some (0, 76) := by kernel_rfl
theorem fo_109_1 : fieldOf Try.prog 109 1 = some (1, 108) := by kernel_rfl
theorem fo_109_2 : fieldOf Try.prog 109 2 = some (2, 3) := by kernel_rfl
theorem zv_109 : zeroVs Try.prog 109 = some [V.sc (.slice none 0 0), V.sc (.map none), V.sc (.int .i64 0)] := by kernel_rfl
theorem zt_109 : zeroT Try.prog 109 = some (.agg #[.slice none 0 0, .map none, .int .i64 0]) := by kernel_rfl
theorem sz_110 : szT Try.prog 110 = some 3 := by kernel_rfl
theorem by_110 : byT Try.prog 110 = some 40 := by kernel_rfl
theorem ag_110 : aggT Try.prog 110 = true := by kernel_rfl
theorem kn_110 : knownT Try.prog 110 = true := by kernel_rfl
theorem it_110 : isIntT Try.prog 110 = false := by kernel_rfl
theorem pt_110 : isPtrT Try.prog 110 = false := by kernel_rfl
theorem pl_110 : placesT Try.prog 110 = some [(0, 1), (1, 1), (2, 1)] := by kernel_rfl
theorem sh_110 : shapeT Try.prog 110 = true := by kernel_rfl
theorem fo_110_0 : fieldOf Try.prog 110 0 = some (0, 76) := by kernel_rfl
theorem fo_110_1 : fieldOf Try.prog 110 1 = some (1, 108) := by kernel_rfl
theorem fo_110_2 : fieldOf Try.prog 110 2 = some (2, 3) := by kernel_rfl
theorem zv_110 : zeroVs Try.prog 110 = some [V.sc (.slice none 0 0), V.sc (.map none), V.sc (.int .i64 0)] := by kernel_rfl
theorem zt_110 : zeroT Try.prog 110 = some (.agg #[.slice none 0 0, .map none, .int .i64 0]) := by kernel_rfl
theorem sz_111 : szT Try.prog 111 = some 1 := by kernel_rfl
theorem by_111 : byT Try.prog 111 = some 8 := by kernel_rfl
theorem ag_111 : aggT Try.prog 111 = false := by kernel_rfl
theorem kn_111 : knownT Try.prog 111 = true := by kernel_rfl
theorem it_111 : isIntT Try.prog 111 = false := by kernel_rfl
theorem pt_111 : isPtrT Try.prog 111 = false := by kernel_rfl
theorem zv_111 : zeroVs Try.prog 111 = some [V.sc (.nilFunc)] := by kernel_rfl
theorem zt_111 : zeroT Try.prog 111 = some (.nilFunc) := by kernel_rfl
theorem sz_112 : szT Try.prog 112 = some 1 := by kernel_rfl
theorem by_112 : byT Try.prog 112 = some 8 := by kernel_rfl
theorem ag_112 : aggT Try.prog 112 = false := by kernel_rfl
theorem kn_112 : knownT Try.prog 112 = true := by kernel_rfl
theorem it_112 : isIntT Try.prog 112 = false := by kernel_rfl
theorem pt_112 : isPtrT Try.prog 112 = false := by kernel_rfl
theorem zv_112 : zeroVs Try.prog 112 = some [V.sc (.nilFunc)] := by kernel_rfl
theorem zt_112 : zeroT Try.prog 112 = some (.nilFunc) := by kernel_rfl
theorem sz_113 : szT Try.prog 113 = some 1 := by kernel_rfl
theorem by_113 : byT Try.prog 113 = some 8 := by kernel_rfl
theorem ag_113 : aggT Try.prog 113 = false := by kernel_rfl
theorem kn_113 : knownT Try.prog 113 = true := by kernel_rfl
theorem it_113 : isIntT Try.prog 113 = false := by kernel_rfl
theorem pt_113 : isPtrT Try.prog 113 = false := by kernel_rfl
theorem zv_113 : zeroVs Try.prog 113 = some [V.sc (.nilFunc)] := by kernel_rfl
theorem zt_113 : zeroT Try.prog 113 = some (.nilFunc) := by kernel_rfl
theorem sz_115 : szT Try.prog 115 = some 1 := by kernel_rfl
theorem by_115 : byT Try.prog 115 = some 8 := by kernel_rfl
theorem ag_115 : aggT Try.prog 115 = false := by kernel_rfl
theorem kn_115 : knownT Try.prog 115 = true := by kernel_rfl
theorem it_115 : isIntT Try.prog 115 = false := by kernel_rfl
theorem pt_115 : isPtrT Try.prog 115 = false := by kernel_rfl
theorem zv_115 : zeroVs Try.prog 115 = some [V.sc (.nilFunc)] := by kernel_rfl
theorem zt_115 : zeroT Try.prog 115 = some (.nilFunc) := by kernel_rfl
theorem sz_116 : szT Try.prog 116 = some 1 := by kernel_rfl
theorem by_116 : byT Try.prog 116 = some 8 := by kernel_rfl
theorem ag_116 : aggT Try.prog 116 = false := by kernel_rfl
theorem kn_116 : knownT Try.prog 116 = true := by kernel_rfl
theorem it_116 : isIntT Try.prog 116 = false := by kernel_rfl
theorem pt_116 : isPtrT Try.prog 116 = false := by kernel_rfl
theorem zv_116 : zeroVs Try.prog 116 = some [V.sc (.nilFunc)] := by kernel_rfl
theorem zt_116 : zeroT Try.prog 116 = some (.nilFunc) := by kernel_rfl
theorem sz_117 : szT Try.prog 117 = some 1 := by kernel_rfl
theorem by_117 : byT Try.prog 117 = some 8 := by kernel_rfl
theorem ag_117 : aggT Try.prog 117 = false := by kernel_rfl
theorem kn_117 : knownT Try.prog 117 = true := by kernel_rfl
theorem it_117 : isIntT Try.prog 117 = false := by kernel_rfl
theorem pt_117 : isPtrT Try.prog 117 = false := by kernel_rfl
theorem zv_117 : zeroVs Try.prog 117 = some [V.sc (.nilFunc)] := by kernel_rfl
theorem zt_117 : zeroT Try.prog 117 = some (.nilFunc) := by kernel_rfl
theorem sz_118 : szT Try.prog 118 = some 1 := by kernel_rfl
theorem by_118 : byT Try.prog 118 = some 24 := by kernel_rfl
theorem ag_118 : aggT Try.prog 118 = false := by kernel_rfl
theorem kn_118 : knownT Try.prog 118 = true := by kernel_rfl
theorem it_118 : isIntT Try.prog 118 = false := by kernel_rfl
theorem pt_118 : isPtrT Try.prog 118 = false := by kernel_rfl
theorem zv_118 : zeroVs Try.prog 118 = some [V.sc (.slice none 0 0)] := by kernel_rfl
theorem zt_118 : zeroT Try.prog 118 = some (.slice none 0 0) := by kernel_rfl
theorem sz_119 : szT Try.prog 119 = some 1 := by kernel_rfl
theorem by_119 : byT Try.prog 119 = some 8 := by kernel_rfl
theorem ag_119 : aggT Try.prog 119 = false := by kernel_rfl
theorem kn_119 : knownT Try.prog 119 = true := by kernel_rfl
theorem it_119 : isIntT Try.prog 119 = false := by kernel_rfl
theorem pt_119 : isPtrT Try.prog 119 = false := by kernel_rfl
theorem zv_119 : zeroVs Try.prog 119 = some [V.sc (.nilFunc)] := by kernel_rfl
theorem zt_119 : zeroT Try.prog 119 = some (.nilFunc) := by kernel_rfl
theorem sz_120 : szT Try.prog 120 = some 1 := by kernel_rfl
theorem by_120 : byT Try.prog 120 = some 8 := by kernel_rfl
theorem ag_120 : aggT Try.prog 120 = false := by kernel_rfl
theorem kn_120 : knownT Try.prog 120 = true := by kernel_rfl
theorem it_120 : isIntT Try.prog 120 = false := by kernel_rfl
theorem pt_120 : isPtrT Try.prog 120 = false := by kernel_rfl
theorem zv_120 : zeroVs Try.prog 120 = some [V.sc (.nilFunc)] := by kernel_rfl
theorem zt_120 : zeroT Try.prog 120 = some (.nilFunc) := by kernel_rfl
theorem sz_121 : szT Try.prog 121 = some 1 := by kernel_rfl
theorem by_121 : byT Try.prog 121 = some 8 := by kernel_rfl
theorem ag_121 : aggT Try.prog 121 = false := by kernel_rfl
theorem kn_121 : knownT Try.prog 121 = true := by kernel_rfl
theorem it_121 : isIntT Try.prog 121 = true := by kernel_rfl
theorem pt_121 : isPtrT Try.prog 121 = false := by kernel_rfl
theorem zv_121 : zeroVs Try.prog 121 = some [V.sc (.int .u64 0)] := by kernel_rfl
theorem zt_121 : zeroT Try.prog 121 = some (.int .u64 0) := by kernel_rfl
theorem sz_122 : szT Try.prog 122 = some 1 := by kernel_rfl
theorem by_122 : byT Try.prog 122 = some 8 := by kernel_rfl
theorem ag_122 : aggT Try.prog 122 = false := by kernel_rfl
theorem kn_122 : knownT Try.prog 122 = true := by kernel_rfl
theorem it_122 : isIntT Try.prog 122 = false := by kernel_rfl
theorem pt_122 : isPtrT Try.prog 122 = false := by kernel_rfl
theorem zv_122 : zeroVs Try.prog 122 = some [V.sc (.nilFunc)] := by kernel_rfl
theorem zt_122 : zeroT Try.prog 122 = some (.nilFunc) := by kernel_rfl
theorem sz_123 : szT Try.prog 123 = some 4 := by kernel_rfl
theorem by_123 : byT Try.prog 123 = some 40 := by kernel_rfl
theorem ag_123 : aggT Try.prog 123 = true := by kernel_rfl
theorem kn_123 : knownT Try.prog 123 = true := by kernel_rfl
theorem it_123 : isIntT Try.prog 123 = false := by kernel_rfl
theorem pt_123 : isPtrT Try.prog 123 = false := by kernel_rfl
theorem pl_123 : placesT Try.prog 123 = some [(0, 1), (1, 1), (2, 1), (3, 1)] := by kernel_rfl
theorem sh_123 : shapeT Try.prog 123 = true := by kernel_rfl
theorem fo_123_0 : fieldOf Try.prog 123 0 = some (0, 17) := by kernel_rfl
theorem fo_123_1 : fieldOf Try.prog 123 1 = some (1, 17) := by kernel_rfl
theorem fo_123_2 : fieldOf Try.prog 123 2 = some (2, 17) := by kernel_rfl
theorem fo_123_3 : fieldOf Try.prog 123 3 = some (3, 9) := by kernel_rfl
theorem zv_123 : zeroVs Try.prog 123 = some [V.sc (.pointer none), V.sc (.pointer none), V.sc (.pointer none), V.sc (.string ⟨#[]⟩)] := by kernel_rfl
theorem zt_123 : zeroT Try.prog 123 = some (.agg #[.pointer none, .pointer none, .pointer none, .string ⟨#[]⟩]) := by kernel_rfl
theorem sz_124 : szT Try.prog 124 = some 4 := by kernel_rfl
theorem by_124 : byT Try.prog 124 = some 40 := by kernel_rfl
theorem ag_124 : aggT Try.prog 124 = true := by kernel_rfl
theorem kn_124 : knownT Try.prog 124 = true := by kernel_rfl
theorem it_124 : isIntT Try.prog 124 = false := by kernel_rfl
theorem pt_124 : isPtrT Try.prog 124 = false := by kernel_rfl
theorem pl_124 : placesT Try.prog 124 = some [(0, 1), (1, 1), (2, 1), (3, 1)] := by kernel_rfl
theorem sh_124 : shapeT Try.prog 124 = true := by kernel_rfl
theorem fo_124_0 : fieldOf Try.prog 124 0 = some (0, 17) := by kernel_rfl
theorem fo_124_1 : fieldOf Try.prog 124 1 = some (1, 17) := by kernel_rfl
theorem fo_124_2 : fieldOf Try.prog 124 2 = some (2, 17) := by kernel_rfl
theorem fo_124_3 : fieldOf Try.prog 124 3 = some (3, 9) := by kernel_rfl
theorem zv_124 : zeroVs Try.prog 124 = some [V.sc (.pointer none), V.sc (.pointer none), V.sc (.pointer none), V.sc (.string ⟨#[]⟩)] := by kernel_rfl
theorem zt_124 : zeroT Try.prog 124 = some (.agg #[.pointer none, .pointer none, .pointer none, .string ⟨#[]⟩]) := by kernel_rfl
theorem sz_125 : szT Try.prog 125 = some 0 := by kernel_rfl
theorem by_125 : byT Try.prog 125 = some 0 := by kernel_rfl
theorem ag_125 : aggT Try.prog 125 = true := by kernel_rfl
theorem kn_125 : knownT Try.prog 125 = true := by kernel_rfl
theorem it_125 : isIntT Try.prog 125 = false := by kernel_rfl
theorem pt_125 : isPtrT Try.prog 125 = false := by kernel_rfl
theorem el_125 : elemT Try.prog 125 = some 1 := by kernel_rfl
theorem pl_125 : placesT Try.prog 125 = none := by kernel_rfl
theorem sh_125 : shapeT Try.prog 125 = true := by kernel_rfl
theorem zv_125 : zeroVs Try.prog 125 = some [] := by kernel_rfl
theorem zt_125 : zeroT Try.prog 125 = some (.agg #[]) := by kernel_rfl
theorem sz_126 : szT Try.prog 126 = some 0 := by kernel_rfl
theorem by_126 : byT Try.prog 126 = some 0 := by kernel_rfl
theorem ag_126 : aggT Try.prog 126 = true := by kernel_rfl
theorem kn_126 : knownT Try.prog 126 = true := by kernel_rfl
theorem it_126 : isIntT Try.prog 126 = false := by kernel_rfl
theorem pt_126 : isPtrT Try.prog 126 = false := by kernel_rfl
theorem pl_126 : placesT Try.prog 126 = some [(0, 0)] := by kernel_rfl
theorem sh_126 : shapeT Try.prog 126 = true := by kernel_rfl
theorem zv_126 : zeroVs Try.prog 126 = some [] := by kernel_rfl
theorem zt_126 : zeroT Try.prog 126 = some (.agg #[]) := by kernel_rfl
theorem sz_127 : szT Try.prog 127 = some 0 := by kernel_rfl
theorem by_127 : byT Try.prog 127 = some 0 := by kernel_rfl
theorem ag_127 : aggT Try.prog 127 = true := by kernel_rfl
theorem kn_127 : knownT Try.prog 127 = true := by kernel_rfl
theorem it_127 : isIntT Try.prog 127 = false := by kernel_rfl
theorem pt_127 : isPtrT Try.prog 127 = false := by kernel_rfl
theorem pl_127 : placesT Try.prog 127 = some [(0, 0)] := by kernel_rfl
theorem sh_127 : shapeT Try.prog 127 = true := by kernel_rfl
theorem zv_127 : zeroVs Try.prog 127 = some [] := by kernel_rfl
theorem zt_127 : zeroT Try.prog 127 = some (.agg #[]) := by kernel_rfl
theorem sz_128 : szT Try.prog 128 = some 1 := by kernel_rfl
theorem by_128 : byT Try.prog 128 = some 1 := by kernel_rfl
theorem ag_128 : aggT Try.prog 128 = false := by kernel_rfl
theorem kn_128 : knownT Try.prog 128 = true := by kernel_rfl
theorem it_128 : isIntT Try.prog 128 = true := by kernel_rfl
theorem pt_128 : isPtrT Try.prog 128 = false := by kernel_rfl
theorem zv_128 : zeroVs Try.prog 128 = some [V.sc (.int .u8 0)] := by kernel_rfl
theorem zt_128 : zeroT Try.prog 128 = some (.int .u8 0) := by kernel_rfl
theorem sz_129 : szT Try.prog 129 = some 1 := by kernel_rfl
theorem by_129 : byT Try.prog 129 = some 1 := by kernel_rfl
theorem ag_129 : aggT Try.prog 129 = false := by kernel_rfl
theorem kn_129 : knownT Try.prog 129 = true := by kernel_rfl
theorem it_129 : isIntT Try.prog 129 = true := by kernel_rfl
theorem pt_129 : isPtrT Try.prog 129 = false := by kernel_rfl
theorem zv_129 : zeroVs Try.prog 129 = some [V.sc (.int .u8 0)] := by kernel_rfl
theorem zt_129 : zeroT Try.prog 129 = some (.int .u8 0) := by kernel_rfl
theorem sz_130 : szT Try.prog 130 = some 1 := by kernel_rfl
theorem by_130 : byT Try.prog 130 = some 8 := by kernel_rfl
theorem ag_130 : aggT Try.prog 130 = false := by kernel_rfl
theorem kn_130 : knownT Try.prog 130 = true := by kernel_rfl
theorem it_130 : isIntT Try.prog 130 = false := by kernel_rfl
theorem pt_130 : isPtrT Try.prog 130 = false := by kernel_rfl
theorem zv_130 : zeroVs Try.prog 130 = some [V.sc (.nilFunc)] := by kernel_rfl
theorem zt_130 : zeroT Try.prog 130 = some (.nilFunc) := by kernel_rfl
theorem sz_131 : szT Try.prog 131 = some 1 := by kernel_rfl
theorem by_131 : byT Try.prog 131 = some 8 := by kernel_rfl
theorem ag_131 : aggT Try.prog 131 = false := by kernel_rfl
theorem kn_131 : knownT Try.prog 131 = true := by kernel_rfl
theorem it_131 : isIntT Try.prog 131 = false := by kernel_rfl
theorem pt_131 : isPtrT Try.prog 131 = true := by kernel_rfl
theorem zv_131 : zeroVs Try.prog 131 = some [V.sc (.pointer none)] := by kernel_rfl
theorem zt_131 : zeroT Try.prog 131 = some (.pointer none) := by kernel_rfl
theorem sz_132 : szT Try.prog 132 = some 1 := by kernel_rfl
theorem by_132 : byT Try.prog 132 = some 4 := by kernel_rfl
theorem ag_132 : aggT Try.prog 132 = false := by kernel_rfl
theorem kn_132 : knownT Try.prog 132 = true := by kernel_rfl
theorem it_132 : isIntT Try.prog 132 = true := by kernel_rfl
theorem pt_132 : isPtrT Try.prog 132 = false := by kernel_rfl
theorem zv_132 : zeroVs Try.prog 132 = some [V.sc (.int .i32 0)] := by kernel_rfl
theorem zt_132 : zeroT Try.prog 132 = some (.int .i32 0) := by kernel_rfl
theorem sz_133 : szT Try.prog 133 = some 1 := by kernel_rfl
theorem by_133 : byT Try.prog 133 = some 4 := by kernel_rfl
theorem ag_133 : aggT Try.prog 133 = false := by kernel_rfl
theorem kn_133 : knownT Try.prog 133 = true := by kernel_rfl
theorem it_133 : isIntT Try.prog 133 = true := by kernel_rfl
theorem pt_133 : isPtrT Try.prog 133 = false := by kernel_rfl
theorem zv_133 : zeroVs Try.prog 133 = some [V.sc (.int .i32 0)] := by kernel_rfl
theorem zt_133 : zeroT Try.prog 133 = some (.int .i32 0) := by kernel_rfl
theorem sz_134 : szT Try.prog 134 = some 11 := by kernel_rfl
theorem by_134 : byT Try.prog 134 = some 48 := by kernel_rfl
theorem ag_134 : aggT Try.prog 134 = true := by kernel_rfl
theorem kn_134 : knownT Try.prog 134 = true := by kernel_rfl
theorem it_134 : isIntT Try.prog 134 = false := by kernel_rfl
theorem pt_134 : isPtrT Try.prog 134 = false := by kernel_rfl
theorem pl_134 : placesT Try.prog 134 = some [(0, 1), (1, 1), (2, 1), (3, 1), (4, 1), (5, 1), (6, 1), (7, 1), (8, 1), (9, 1), (10, 1)] := by kernel_rfl
theorem sh_134 : shapeT Try.prog 134 = true := by kernel_rfl
theorem fo_134_0 : fieldOf Try.prog 134 0 = some (0, 12) := by kernel_rfl
theorem fo_134_1 : fieldOf Try.prog 134 1 = some (1, 12) := by kernel_rfl
theorem fo_134_2 : fieldOf Try.prog 134 2 = some (2, 32) := by kernel_rfl
theorem fo_134_3 : fieldOf Try.prog 134 3 = some (3, 128) := by kernel_rfl
theorem fo_134_4 : fieldOf Try.prog 134 4 = some (4, 5) := by kernel_rfl
theorem fo_134_5 : fieldOf Try.prog 134 5 = some (5, 5) := by kernel_rfl
theorem fo_134_6 : fieldOf Try.prog 134 6 = some (6, 129) := by kernel_rfl
theorem fo_134_7 : fieldOf Try.prog 134 7 = some (7, 130) := by kernel_rfl
theorem fo_134_8 : fieldOf Try.prog 134 8 = some (8, 131) := by kernel_rfl
theorem fo_134_9 : fieldOf Try.prog 134 9 = some (9, 132) := by kernel_rfl
theorem fo_134_10 : fieldOf Try.prog 134 10 = some (10, 133) := by kernel_rfl
theorem zv_134 : zeroVs Try.prog 134 = some [V.sc (.int .u64 0), V.sc (.int .u64 0), V.sc (.int .u32 0), V.sc (.int .u8 0), V.sc (.int .u8 0), V.sc (.int .u8 0), V.sc (.int .u8 0), V.sc (.nilFunc), V.sc (.pointer none), V.sc (.int .i32 0), V.sc (.int .i32 0)] := by kernel_rfl
theorem zt_134 : zeroT Try.prog 134 = some (.agg #[.int .u64 0, .int .u64 0, .int .u32 0, .int .u8 0, .int .u8 0, .int .u8 0, .int .u8 0, .nilFunc, .pointer none, .int .i32 0, .int .i32 0]) := by kernel_rfl
theorem sz_135 : szT Try.prog 135 = some 11 := by kernel_rfl
theorem by_135 : byT Try.prog 135 = some 48 := by kernel_rfl
theorem ag_135 : aggT Try.prog 135 = true := by kernel_rfl
theorem kn_135 : knownT Try.prog 135 = true := by kernel_rfl
theorem it_135 : isIntT Try.prog 135 = false := by kernel_rfl
theorem pt_135 : isPtrT Try.prog 135 = false := by kernel_rfl
theorem pl_135 : placesT Try.prog 135 = some [(0, 1), (1, 1), (2, 1), (3, 1), (4, 1), (5, 1), (6, 1), (7, 1), (8, 1), (9, 1), (10, 1)] := by kernel_rfl
theorem sh_135 : shapeT Try.prog 135 = true := by kernel_rfl
theorem fo_135_0 : fieldOf Try.prog 135 0 = some (0, 12) := by kernel_rfl
theorem fo_135_1 : fieldOf Try.prog 135 1 = some (1, 12) := by kernel_rfl
theorem fo_135_2 : fieldOf Try.prog 135 2 = some (2, 32) := by kernel_rfl
theorem fo_135_3 : fieldOf Try.prog 135 3 = some (3, 128) := by kernel_rfl
theorem fo_135_4 : fieldOf Try.prog 135 4 = some (4, 5) := by kernel_rfl
theorem fo_135_5 : fieldOf Try.prog 135 5 = some (5, 5) := by kernel_rfl
theorem fo_135_6 : fieldOf Try.prog 135 6 = some (6, 129) := by kernel_rfl
theorem fo_135_7 : fieldOf Try.prog 135 7 = some (7, 130) := by kernel_rfl
theorem fo_135_8 : fieldOf Try.prog 135 8 = some (8, 131) := by kernel_rfl
theorem fo_135_9 : fieldOf Try.prog 135 9 = some (9, 132) := by kernel_rfl
theorem fo_135_10 : fieldOf Try.prog 135 10 = some (10, 133) := by kernel_rfl
theorem zv_135 : zeroVs Try.prog 135 = some [V.sc (.int .u64 0), V.sc (.int .u64 0), V.sc (.int .u32 0), V.sc (.int .u8 0), V.sc (.int .u8 0), V.sc (.int .u8 0), V.sc (.int .u8 0), V.sc (.nilFunc), V.sc (.pointer none), V.sc (.int .i32 0), V.sc (.int .i32 0)] := by kernel_rfl
theorem zt_135 : zeroT Try.prog 135 = some (.agg #[.int .u64 0, .int .u64 0, .int .u32 0, .int .u8 0, .int .u8 0, .int .u8 0, .int .u8 0, .nilFunc, .pointer none, .int .i32 0, .int .i32 0]) := by kernel_rfl
theorem sz_136 : szT Try.prog 136 = some 1 := by kernel_rfl
theorem by_136 : byT Try.prog 136 = some 8 := by kernel_rfl
theorem ag_136 : aggT Try.prog 136 = false := by kernel_rfl
theorem kn_136 : knownT Try.prog 136 = true := by kernel_rfl
theorem it_136 : isIntT Try.prog 136 = false := by kernel_rfl
theorem pt_136 : isPtrT Try.prog 136 = false := by kernel_rfl
theorem zv_136 : zeroVs Try.prog 136 = some [V.sc (.pointer none)] := by kernel_rfl
theorem zt_136 : zeroT Try.prog 136 = some (.pointer none) := by kernel_rfl
end Go.Proofs.Ytfcbpdokilidgaa
