/- What the walk over values asks of this program's types (printed by gen_types.py). -/
import Derived.Test.YtonllhjmoenckaaDoorProg
import Derived.Test.YtonllhjmoenckaaDoorVsZ
namespace Go.Proofs.YtonllhjmoenckaaDoor
open Go Go.RowKit
theorem sz_1 : szT Tryd.prog 1 = some 1 := by kernel_rfl
theorem by_1 : byT Tryd.prog 1 = some 8 := by kernel_rfl
theorem ag_1 : aggT Tryd.prog 1 = false := by kernel_rfl
theorem kn_1 : knownT Tryd.prog 1 = true := by kernel_rfl
theorem it_1 : isIntT Tryd.prog 1 = false := by kernel_rfl
theorem pt_1 : isPtrT Tryd.prog 1 = false := by kernel_rfl
theorem zv_1 : zeroVs Tryd.prog 1 = some [V.sc (.nilFunc)] := by kernel_rfl
theorem zt_1 : zeroT Tryd.prog 1 = some (.nilFunc) := by kernel_rfl
theorem sz_2 : szT Tryd.prog 2 = some 1 := by kernel_rfl
theorem by_2 : byT Tryd.prog 2 = some 8 := by kernel_rfl
theorem ag_2 : aggT Tryd.prog 2 = false := by kernel_rfl
theorem kn_2 : knownT Tryd.prog 2 = true := by kernel_rfl
theorem it_2 : isIntT Tryd.prog 2 = true := by kernel_rfl
theorem pt_2 : isPtrT Tryd.prog 2 = false := by kernel_rfl
theorem zv_2 : zeroVs Tryd.prog 2 = some [V.sc (.int .i64 0)] := by kernel_rfl
theorem zt_2 : zeroT Tryd.prog 2 = some (.int .i64 0) := by kernel_rfl
theorem sz_3 : szT Tryd.prog 3 = some 1 := by kernel_rfl
theorem by_3 : byT Tryd.prog 3 = some 8 := by kernel_rfl
theorem ag_3 : aggT Tryd.prog 3 = false := by kernel_rfl
theorem kn_3 : knownT Tryd.prog 3 = true := by kernel_rfl
theorem it_3 : isIntT Tryd.prog 3 = true := by kernel_rfl
theorem pt_3 : isPtrT Tryd.prog 3 = false := by kernel_rfl
theorem zv_3 : zeroVs Tryd.prog 3 = some [V.sc (.int .i64 0)] := by kernel_rfl
theorem zt_3 : zeroT Tryd.prog 3 = some (.int .i64 0) := by kernel_rfl
theorem sz_4 : szT Tryd.prog 4 = some 1 := by kernel_rfl
theorem by_4 : byT Tryd.prog 4 = some 1 := by kernel_rfl
theorem ag_4 : aggT Tryd.prog 4 = false := by kernel_rfl
theorem kn_4 : knownT Tryd.prog 4 = true := by kernel_rfl
theorem it_4 : isIntT Tryd.prog 4 = false := by kernel_rfl
theorem pt_4 : isPtrT Tryd.prog 4 = false := by kernel_rfl
theorem zv_4 : zeroVs Tryd.prog 4 = some [V.sc (.bool false)] := by kernel_rfl
theorem zt_4 : zeroT Tryd.prog 4 = some (.bool false) := by kernel_rfl
theorem sz_5 : szT Tryd.prog 5 = some 1 := by kernel_rfl
theorem by_5 : byT Tryd.prog 5 = some 1 := by kernel_rfl
theorem ag_5 : aggT Tryd.prog 5 = false := by kernel_rfl
theorem kn_5 : knownT Tryd.prog 5 = true := by kernel_rfl
theorem it_5 : isIntT Tryd.prog 5 = true := by kernel_rfl
theorem pt_5 : isPtrT Tryd.prog 5 = false := by kernel_rfl
theorem zv_5 : zeroVs Tryd.prog 5 = some [V.sc (.int .u8 0)] := by kernel_rfl
theorem zt_5 : zeroT Tryd.prog 5 = some (.int .u8 0) := by kernel_rfl
theorem sz_6 : szT Tryd.prog 6 = some 1 := by kernel_rfl
theorem by_6 : byT Tryd.prog 6 = some 1 := by kernel_rfl
theorem ag_6 : aggT Tryd.prog 6 = false := by kernel_rfl
theorem kn_6 : knownT Tryd.prog 6 = true := by kernel_rfl
theorem it_6 : isIntT Tryd.prog 6 = true := by kernel_rfl
theorem pt_6 : isPtrT Tryd.prog 6 = false := by kernel_rfl
theorem zv_6 : zeroVs Tryd.prog 6 = some [V.sc (.int .u8 0)] := by kernel_rfl
theorem zt_6 : zeroT Tryd.prog 6 = some (.int .u8 0) := by kernel_rfl
theorem sz_7 : szT Tryd.prog 7 = some 4 := by kernel_rfl
theorem by_7 : byT Tryd.prog 7 = some 24 := by kernel_rfl
theorem ag_7 : aggT Tryd.prog 7 = true := by kernel_rfl
theorem kn_7 : knownT Tryd.prog 7 = true := by kernel_rfl
theorem it_7 : isIntT Tryd.prog 7 = false := by kernel_rfl
theorem pt_7 : isPtrT Tryd.prog 7 = false := by kernel_rfl
theorem pl_7 : placesT Tryd.prog 7 = some [(0, 1), (1, 1), (2, 1), (3, 1)] := by kernel_rfl
theorem sh_7 : shapeT Tryd.prog 7 = true := by kernel_rfl
theorem fo_7_0 : fieldOf Tryd.prog 7 0 = some (0, 2) := by kernel_rfl
theorem fo_7_1 : fieldOf Tryd.prog 7 1 = some (1, 3) := by kernel_rfl
theorem fo_7_2 : fieldOf Tryd.prog 7 2 = some (2, 4) := by kernel_rfl
theorem fo_7_3 : fieldOf Tryd.prog 7 3 = some (3, 6) := by kernel_rfl
theorem zv_7 : zeroVs Tryd.prog 7 = some [V.sc (.int .i64 0), V.sc (.int .i64 0), V.sc (.bool false), V.sc (.int .u8 0)] := by kernel_rfl
theorem zt_7 : zeroT Tryd.prog 7 = some (.agg #[.int .i64 0, .int .i64 0, .bool false, .int .u8 0]) := by kernel_rfl
theorem sz_8 : szT Tryd.prog 8 = some 4 := by kernel_rfl
theorem by_8 : byT Tryd.prog 8 = some 24 := by kernel_rfl
theorem ag_8 : aggT Tryd.prog 8 = true := by kernel_rfl
theorem kn_8 : knownT Tryd.prog 8 = true := by kernel_rfl
theorem it_8 : isIntT Tryd.prog 8 = false := by kernel_rfl
theorem pt_8 : isPtrT Tryd.prog 8 = false := by kernel_rfl
theorem pl_8 : placesT Tryd.prog 8 = some [(0, 1), (1, 1), (2, 1), (3, 1)] := by kernel_rfl
theorem sh_8 : shapeT Tryd.prog 8 = true := by kernel_rfl
theorem fo_8_0 : fieldOf Tryd.prog 8 0 = some (0, 2) := by kernel_rfl
theorem fo_8_1 : fieldOf Tryd.prog 8 1 = some (1, 3) := by kernel_rfl
theorem fo_8_2 : fieldOf Tryd.prog 8 2 = some (2, 4) := by kernel_rfl
theorem fo_8_3 : fieldOf Tryd.prog 8 3 = some (3, 6) := by kernel_rfl
theorem zv_8 : zeroVs Tryd.prog 8 = some [V.sc (.int .i64 0), V.sc (.int .i64 0), V.sc (.bool false), V.sc (.int .u8 0)] := by kernel_rfl
theorem zt_8 : zeroT Tryd.prog 8 = some (.agg #[.int .i64 0, .int .i64 0, .bool false, .int .u8 0]) := by kernel_rfl
theorem sz_9 : szT Tryd.prog 9 = some 1 := by kernel_rfl
theorem by_9 : byT Tryd.prog 9 = some 16 := by kernel_rfl
theorem ag_9 : aggT Tryd.prog 9 = false := by kernel_rfl
theorem kn_9 : knownT Tryd.prog 9 = true := by kernel_rfl
theorem it_9 : isIntT Tryd.prog 9 = false := by kernel_rfl
theorem pt_9 : isPtrT Tryd.prog 9 = false := by kernel_rfl
theorem zv_9 : zeroVs Tryd.prog 9 = some [V.sc (.string ⟨#[]⟩)] := by kernel_rfl
theorem zt_9 : zeroT Tryd.prog 9 = some (.string ⟨#[]⟩) := by kernel_rfl
theorem sz_10 : szT Tryd.prog 10 = some 1 := by kernel_rfl
theorem by_10 : byT Tryd.prog 10 = some 16 := by kernel_rfl
theorem ag_10 : aggT Tryd.prog 10 = false := by kernel_rfl
theorem kn_10 : knownT Tryd.prog 10 = true := by kernel_rfl
theorem it_10 : isIntT Tryd.prog 10 = false := by kernel_rfl
theorem pt_10 : isPtrT Tryd.prog 10 = false := by kernel_rfl
theorem zv_10 : zeroVs Tryd.prog 10 = some [V.sc (.string ⟨#[]⟩)] := by kernel_rfl
theorem zt_10 : zeroT Tryd.prog 10 = some (.string ⟨#[]⟩) := by kernel_rfl
theorem sz_11 : szT Tryd.prog 11 = some 1 := by kernel_rfl
theorem by_11 : byT Tryd.prog 11 = some 16 := by kernel_rfl
theorem ag_11 : aggT Tryd.prog 11 = false := by kernel_rfl
theorem kn_11 : knownT Tryd.prog 11 = true := by kernel_rfl
theorem it_11 : isIntT Tryd.prog 11 = false := by kernel_rfl
theorem pt_11 : isPtrT Tryd.prog 11 = false := by kernel_rfl
theorem zv_11 : zeroVs Tryd.prog 11 = some [V.sc (.string ⟨#[]⟩)] := by kernel_rfl
theorem zt_11 : zeroT Tryd.prog 11 = some (.string ⟨#[]⟩) := by kernel_rfl
theorem sz_12 : szT Tryd.prog 12 = some 1 := by kernel_rfl
theorem by_12 : byT Tryd.prog 12 = some 8 := by kernel_rfl
theorem ag_12 : aggT Tryd.prog 12 = false := by kernel_rfl
theorem kn_12 : knownT Tryd.prog 12 = true := by kernel_rfl
theorem it_12 : isIntT Tryd.prog 12 = true := by kernel_rfl
theorem pt_12 : isPtrT Tryd.prog 12 = false := by kernel_rfl
theorem zv_12 : zeroVs Tryd.prog 12 = some [V.sc (.int .u64 0)] := by kernel_rfl
theorem zt_12 : zeroT Tryd.prog 12 = some (.int .u64 0) := by kernel_rfl
theorem sz_13 : szT Tryd.prog 13 = some 2 := by kernel_rfl
theorem by_13 : byT Tryd.prog 13 = some 24 := by kernel_rfl
theorem ag_13 : aggT Tryd.prog 13 = true := by kernel_rfl
theorem kn_13 : knownT Tryd.prog 13 = true := by kernel_rfl
theorem it_13 : isIntT Tryd.prog 13 = false := by kernel_rfl
theorem pt_13 : isPtrT Tryd.prog 13 = false := by kernel_rfl
theorem pl_13 : placesT Tryd.prog 13 = some [(0, 1), (1, 1)] := by kernel_rfl
theorem sh_13 : shapeT Tryd.prog 13 = true := by kernel_rfl
theorem fo_13_0 : fieldOf Tryd.prog 13 0 = some (0, 9) := by kernel_rfl
theorem fo_13_1 : fieldOf Tryd.prog 13 1 = some (1, 12) := by kernel_rfl
theorem zv_13 : zeroVs Tryd.prog 13 = some [V.sc (.string ⟨#[]⟩), V.sc (.int .u64 0)] := by kernel_rfl
theorem zt_13 : zeroT Tryd.prog 13 = some (.agg #[.string ⟨#[]⟩, .int .u64 0]) := by kernel_rfl
theorem sz_14 : szT Tryd.prog 14 = some 2 := by kernel_rfl
theorem by_14 : byT Tryd.prog 14 = some 24 := by kernel_rfl
theorem ag_14 : aggT Tryd.prog 14 = true := by kernel_rfl
theorem kn_14 : knownT Tryd.prog 14 = true := by kernel_rfl
theorem it_14 : isIntT Tryd.prog 14 = false := by kernel_rfl
theorem pt_14 : isPtrT Tryd.prog 14 = false := by kernel_rfl
theorem pl_14 : placesT Tryd.prog 14 = some [(0, 1), (1, 1)] := by kernel_rfl
theorem sh_14 : shapeT Tryd.prog 14 = true := by kernel_rfl
theorem fo_14_0 : fieldOf Tryd.prog 14 0 = some (0, 9) := by kernel_rfl
theorem fo_14_1 : fieldOf Tryd.prog 14 1 = some (1, 12) := by kernel_rfl
theorem zv_14 : zeroVs Tryd.prog 14 = some [V.sc (.string ⟨#[]⟩), V.sc (.int .u64 0)] := by kernel_rfl
theorem zt_14 : zeroT Tryd.prog 14 = some (.agg #[.string ⟨#[]⟩, .int .u64 0]) := by kernel_rfl
theorem sz_15 : szT Tryd.prog 15 = some 1 := by kernel_rfl
theorem by_15 : byT Tryd.prog 15 = some 8 := by kernel_rfl
theorem ag_15 : aggT Tryd.prog 15 = false := by kernel_rfl
theorem kn_15 : knownT Tryd.prog 15 = true := by kernel_rfl
theorem it_15 : isIntT Tryd.prog 15 = false := by kernel_rfl
theorem pt_15 : isPtrT Tryd.prog 15 = true := by kernel_rfl
theorem zv_15 : zeroVs Tryd.prog 15 = some [V.sc (.pointer none)] := by kernel_rfl
theorem zt_15 : zeroT Tryd.prog 15 = some (.pointer none) := by kernel_rfl
theorem sz_16 : szT Tryd.prog 16 = some 1 := by kernel_rfl
theorem by_16 : byT Tryd.prog 16 = some 8 := by kernel_rfl
theorem ag_16 : aggT Tryd.prog 16 = false := by kernel_rfl
theorem kn_16 : knownT Tryd.prog 16 = true := by kernel_rfl
theorem it_16 : isIntT Tryd.prog 16 = false := by kernel_rfl
theorem pt_16 : isPtrT Tryd.prog 16 = true := by kernel_rfl
theorem zv_16 : zeroVs Tryd.prog 16 = some [V.sc (.pointer none)] := by kernel_rfl
theorem zt_16 : zeroT Tryd.prog 16 = some (.pointer none) := by kernel_rfl
theorem sz_17 : szT Tryd.prog 17 = some 1 := by kernel_rfl
theorem by_17 : byT Tryd.prog 17 = some 8 := by kernel_rfl
theorem ag_17 : aggT Tryd.prog 17 = false := by kernel_rfl
theorem kn_17 : knownT Tryd.prog 17 = true := by kernel_rfl
theorem it_17 : isIntT Tryd.prog 17 = false := by kernel_rfl
theorem pt_17 : isPtrT Tryd.prog 17 = true := by kernel_rfl
theorem zv_17 : zeroVs Tryd.prog 17 = some [V.sc (.pointer none)] := by kernel_rfl
theorem zt_17 : zeroT Tryd.prog 17 = some (.pointer none) := by kernel_rfl
theorem sz_18 : szT Tryd.prog 18 = some 1 := by kernel_rfl
theorem by_18 : byT Tryd.prog 18 = some 8 := by kernel_rfl
theorem ag_18 : aggT Tryd.prog 18 = true := by kernel_rfl
theorem kn_18 : knownT Tryd.prog 18 = true := by kernel_rfl
theorem it_18 : isIntT Tryd.prog 18 = false := by kernel_rfl
theorem pt_18 : isPtrT Tryd.prog 18 = false := by kernel_rfl
theorem pl_18 : placesT Tryd.prog 18 = some [(0, 1)] := by kernel_rfl
theorem sh_18 : shapeT Tryd.prog 18 = true := by kernel_rfl
theorem fo_18_0 : fieldOf Tryd.prog 18 0 = some (0, 17) := by kernel_rfl
theorem zv_18 : zeroVs Tryd.prog 18 = some [V.sc (.pointer none)] := by kernel_rfl
theorem zt_18 : zeroT Tryd.prog 18 = some (.agg #[.pointer none]) := by kernel_rfl
theorem sz_19 : szT Tryd.prog 19 = some 1 := by kernel_rfl
theorem by_19 : byT Tryd.prog 19 = some 8 := by kernel_rfl
theorem ag_19 : aggT Tryd.prog 19 = true := by kernel_rfl
theorem kn_19 : knownT Tryd.prog 19 = true := by kernel_rfl
theorem it_19 : isIntT Tryd.prog 19 = false := by kernel_rfl
theorem pt_19 : isPtrT Tryd.prog 19 = false := by kernel_rfl
theorem pl_19 : placesT Tryd.prog 19 = some [(0, 1)] := by kernel_rfl
theorem sh_19 : shapeT Tryd.prog 19 = true := by kernel_rfl
theorem fo_19_0 : fieldOf Tryd.prog 19 0 = some (0, 17) := by kernel_rfl
theorem zv_19 : zeroVs Tryd.prog 19 = some [V.sc (.pointer none)] := by kernel_rfl
theorem zt_19 : zeroT Tryd.prog 19 = some (.agg #[.pointer none]) := by kernel_rfl
theorem sz_20 : szT Tryd.prog 20 = some 1 := by kernel_rfl
theorem by_20 : byT Tryd.prog 20 = some 16 := by kernel_rfl
theorem ag_20 : aggT Tryd.prog 20 = false := by kernel_rfl
theorem kn_20 : knownT Tryd.prog 20 = true := by kernel_rfl
theorem it_20 : isIntT Tryd.prog 20 = false := by kernel_rfl
theorem pt_20 : isPtrT Tryd.prog 20 = false := by kernel_rfl
theorem zv_20 : zeroVs Tryd.prog 20 = some [V.sc (.nilIface)] := by kernel_rfl
theorem zt_20 : zeroT Tryd.prog 20 = some (.nilIface) := by kernel_rfl
theorem sz_21 : szT Tryd.prog 21 = some 1 := by kernel_rfl
theorem by_21 : byT Tryd.prog 21 = some 4 := by kernel_rfl
theorem ag_21 : aggT Tryd.prog 21 = false := by kernel_rfl
theorem kn_21 : knownT Tryd.prog 21 = true := by kernel_rfl
theorem it_21 : isIntT Tryd.prog 21 = true := by kernel_rfl
theorem pt_21 : isPtrT Tryd.prog 21 = false := by kernel_rfl
theorem zv_21 : zeroVs Tryd.prog 21 = some [V.sc (.int .i32 0)] := by kernel_rfl
theorem zt_21 : zeroT Tryd.prog 21 = some (.int .i32 0) := by kernel_rfl
theorem sz_22 : szT Tryd.prog 22 = some 1 := by kernel_rfl
theorem by_22 : byT Tryd.prog 22 = some 24 := by kernel_rfl
theorem ag_22 : aggT Tryd.prog 22 = false := by kernel_rfl
theorem kn_22 : knownT Tryd.prog 22 = true := by kernel_rfl
theorem it_22 : isIntT Tryd.prog 22 = false := by kernel_rfl
theorem pt_22 : isPtrT Tryd.prog 22 = false := by kernel_rfl
theorem zv_22 : zeroVs Tryd.prog 22 = some [V.sc (.slice none 0 0)] := by kernel_rfl
theorem zt_22 : zeroT Tryd.prog 22 = some (.slice none 0 0) := by kernel_rfl
theorem sz_23 : szT Tryd.prog 23 = some 1 := by kernel_rfl
theorem by_23 : byT Tryd.prog 23 = some 24 := by kernel_rfl
theorem ag_23 : aggT Tryd.prog 23 = false := by kernel_rfl
theorem kn_23 : knownT Tryd.prog 23 = true := by kernel_rfl
theorem it_23 : isIntT Tryd.prog 23 = false := by kernel_rfl
theorem pt_23 : isPtrT Tryd.prog 23 = false := by kernel_rfl
theorem zv_23 : zeroVs Tryd.prog 23 = some [V.sc (.slice none 0 0)] := by kernel_rfl
theorem zt_23 : zeroT Tryd.prog 23 = some (.slice none 0 0) := by kernel_rfl
theorem sz_24 : szT Tryd.prog 24 = some 1 := by kernel_rfl
theorem by_24 : byT Tryd.prog 24 = some 8 := by kernel_rfl
theorem ag_24 : aggT Tryd.prog 24 = false := by kernel_rfl
theorem kn_24 : knownT Tryd.prog 24 = true := by kernel_rfl
theorem it_24 : isIntT Tryd.prog 24 = false := by kernel_rfl
theorem pt_24 : isPtrT Tryd.prog 24 = false := by kernel_rfl
theorem zv_24 : zeroVs Tryd.prog 24 = some [V.sc (.nilFunc)] := by kernel_rfl
theorem zt_24 : zeroT Tryd.prog 24 = some (.nilFunc) := by kernel_rfl
theorem sz_25 : szT Tryd.prog 25 = some 1 := by kernel_rfl
theorem by_25 : byT Tryd.prog 25 = some 8 := by kernel_rfl
theorem ag_25 : aggT Tryd.prog 25 = false := by kernel_rfl
theorem kn_25 : knownT Tryd.prog 25 = true := by kernel_rfl
theorem it_25 : isIntT Tryd.prog 25 = false := by kernel_rfl
theorem pt_25 : isPtrT Tryd.prog 25 = false := by kernel_rfl
theorem zv_25 : zeroVs Tryd.prog 25 = some [V.sc (.nilFunc)] := by kernel_rfl
theorem zt_25 : zeroT Tryd.prog 25 = some (.nilFunc) := by kernel_rfl
theorem sz_26 : szT Tryd.prog 26 = some 1 := by kernel_rfl
theorem by_26 : byT Tryd.prog 26 = some 8 := by kernel_rfl
theorem ag_26 : aggT Tryd.prog 26 = false := by kernel_rfl
theorem kn_26 : knownT Tryd.prog 26 = true := by kernel_rfl
theorem it_26 : isIntT Tryd.prog 26 = true := by kernel_rfl
theorem pt_26 : isPtrT Tryd.prog 26 = false := by kernel_rfl
theorem zv_26 : zeroVs Tryd.prog 26 = some [V.sc (.int .i64 0)] := by kernel_rfl
theorem zt_26 : zeroT Tryd.prog 26 = some (.int .i64 0) := by kernel_rfl
theorem sz_28 : szT Tryd.prog 28 = some 1 := by kernel_rfl
theorem by_28 : byT Tryd.prog 28 = some 8 := by kernel_rfl
theorem ag_28 : aggT Tryd.prog 28 = false := by kernel_rfl
theorem kn_28 : knownT Tryd.prog 28 = true := by kernel_rfl
theorem it_28 : isIntT Tryd.prog 28 = false := by kernel_rfl
theorem pt_28 : isPtrT Tryd.prog 28 = false := by kernel_rfl
theorem zv_28 : zeroVs Tryd.prog 28 = some [V.sc (.nilFunc)] := by kernel_rfl
theorem zt_28 : zeroT Tryd.prog 28 = some (.nilFunc) := by kernel_rfl
theorem sz_30 : szT Tryd.prog 30 = some 1 := by kernel_rfl
theorem by_30 : byT Tryd.prog 30 = some 8 := by kernel_rfl
theorem ag_30 : aggT Tryd.prog 30 = false := by kernel_rfl
theorem kn_30 : knownT Tryd.prog 30 = true := by kernel_rfl
theorem it_30 : isIntT Tryd.prog 30 = false := by kernel_rfl
theorem pt_30 : isPtrT Tryd.prog 30 = false := by kernel_rfl
theorem zv_30 : zeroVs Tryd.prog 30 = some [V.sc (.nilFunc)] := by kernel_rfl
theorem zt_30 : zeroT Tryd.prog 30 = some (.nilFunc) := by kernel_rfl
theorem sz_32 : szT Tryd.prog 32 = some 1 := by kernel_rfl
theorem by_32 : byT Tryd.prog 32 = some 8 := by kernel_rfl
theorem ag_32 : aggT Tryd.prog 32 = false := by kernel_rfl
theorem kn_32 : knownT Tryd.prog 32 = true := by kernel_rfl
theorem it_32 : isIntT Tryd.prog 32 = false := by kernel_rfl
theorem pt_32 : isPtrT Tryd.prog 32 = false := by kernel_rfl
theorem zv_32 : zeroVs Tryd.prog 32 = some [V.sc (.nilFunc)] := by kernel_rfl
theorem zt_32 : zeroT Tryd.prog 32 = some (.nilFunc) := by kernel_rfl
theorem sz_33 : szT Tryd.prog 33 = some 1 := by kernel_rfl
theorem by_33 : byT Tryd.prog 33 = some 8 := by kernel_rfl
theorem ag_33 : aggT Tryd.prog 33 = false := by kernel_rfl
theorem kn_33 : knownT Tryd.prog 33 = true := by kernel_rfl
theorem it_33 : isIntT Tryd.prog 33 = false := by kernel_rfl
theorem pt_33 : isPtrT Tryd.prog 33 = false := by kernel_rfl
theorem zv_33 : zeroVs Tryd.prog 33 = some [V.sc (.nilFunc)] := by kernel_rfl
theorem zt_33 : zeroT Tryd.prog 33 = some (.nilFunc) := by kernel_rfl
theorem sz_34 : szT Tryd.prog 34 = some 1 := by kernel_rfl
theorem by_34 : byT Tryd.prog 34 = some 8 := by kernel_rfl
theorem ag_34 : aggT Tryd.prog 34 = false := by kernel_rfl
theorem kn_34 : knownT Tryd.prog 34 = true := by kernel_rfl
theorem it_34 : isIntT Tryd.prog 34 = false := by kernel_rfl
theorem pt_34 : isPtrT Tryd.prog 34 = false := by kernel_rfl
theorem zv_34 : zeroVs Tryd.prog 34 = some [V.sc (.nilFunc)] := by kernel_rfl
theorem zt_34 : zeroT Tryd.prog 34 = some (.nilFunc) := by kernel_rfl
theorem sz_35 : szT Tryd.prog 35 = some 1 := by kernel_rfl
theorem by_35 : byT Tryd.prog 35 = some 8 := by kernel_rfl
theorem ag_35 : aggT Tryd.prog 35 = false := by kernel_rfl
theorem kn_35 : knownT Tryd.prog 35 = true := by kernel_rfl
theorem it_35 : isIntT Tryd.prog 35 = false := by kernel_rfl
theorem pt_35 : isPtrT Tryd.prog 35 = false := by kernel_rfl
theorem zv_35 : zeroVs Tryd.prog 35 = some [V.sc (.nilFunc)] := by kernel_rfl
theorem zt_35 : zeroT Tryd.prog 35 = some (.nilFunc) := by kernel_rfl
theorem sz_36 : szT Tryd.prog 36 = some 1 := by kernel_rfl
theorem by_36 : byT Tryd.prog 36 = some 8 := by kernel_rfl
theorem ag_36 : aggT Tryd.prog 36 = false := by kernel_rfl
theorem kn_36 : knownT Tryd.prog 36 = true := by kernel_rfl
theorem it_36 : isIntT Tryd.prog 36 = false := by kernel_rfl
theorem pt_36 : isPtrT Tryd.prog 36 = false := by kernel_rfl
theorem zv_36 : zeroVs Tryd.prog 36 = some [V.sc (.nilFunc)] := by kernel_rfl
theorem zt_36 : zeroT Tryd.prog 36 = some (.nilFunc) := by kernel_rfl
theorem sz_37 : szT Tryd.prog 37 = some 1 := by kernel_rfl
theorem by_37 : byT Tryd.prog 37 = some 8 := by kernel_rfl
theorem ag_37 : aggT Tryd.prog 37 = false := by kernel_rfl
theorem kn_37 : knownT Tryd.prog 37 = true := by kernel_rfl
theorem it_37 : isIntT Tryd.prog 37 = false := by kernel_rfl
theorem pt_37 : isPtrT Tryd.prog 37 = false := by kernel_rfl
theorem zv_37 : zeroVs Tryd.prog 37 = some [V.sc (.nilFunc)] := by kernel_rfl
theorem zt_37 : zeroT Tryd.prog 37 = some (.nilFunc) := by kernel_rfl
theorem sz_38 : szT Tryd.prog 38 = some 1 := by kernel_rfl
theorem by_38 : byT Tryd.prog 38 = some 8 := by kernel_rfl
theorem ag_38 : aggT Tryd.prog 38 = false := by kernel_rfl
theorem kn_38 : knownT Tryd.prog 38 = true := by kernel_rfl
theorem it_38 : isIntT Tryd.prog 38 = true := by kernel_rfl
theorem pt_38 : isPtrT Tryd.prog 38 = false := by kernel_rfl
theorem zv_38 : zeroVs Tryd.prog 38 = some [V.sc (.int .u64 0)] := by kernel_rfl
theorem zt_38 : zeroT Tryd.prog 38 = some (.int .u64 0) := by kernel_rfl
theorem sz_39 : szT Tryd.prog 39 = some 1 := by kernel_rfl
theorem by_39 : byT Tryd.prog 39 = some 8 := by kernel_rfl
theorem ag_39 : aggT Tryd.prog 39 = false := by kernel_rfl
theorem kn_39 : knownT Tryd.prog 39 = true := by kernel_rfl
theorem it_39 : isIntT Tryd.prog 39 = false := by kernel_rfl
theorem pt_39 : isPtrT Tryd.prog 39 = false := by kernel_rfl
theorem zv_39 : zeroVs Tryd.prog 39 = some [V.sc (.nilFunc)] := by kernel_rfl
theorem zt_39 : zeroT Tryd.prog 39 = some (.nilFunc) := by kernel_rfl
theorem sz_40 : szT Tryd.prog 40 = some 1 := by kernel_rfl
theorem by_40 : byT Tryd.prog 40 = some 2 := by kernel_rfl
theorem ag_40 : aggT Tryd.prog 40 = false := by kernel_rfl
theorem kn_40 : knownT Tryd.prog 40 = true := by kernel_rfl
theorem it_40 : isIntT Tryd.prog 40 = true := by kernel_rfl
theorem pt_40 : isPtrT Tryd.prog 40 = false := by kernel_rfl
theorem zv_40 : zeroVs Tryd.prog 40 = some [V.sc (.int .u16 0)] := by kernel_rfl
theorem zt_40 : zeroT Tryd.prog 40 = some (.int .u16 0) := by kernel_rfl
theorem sz_41 : szT Tryd.prog 41 = some 1 := by kernel_rfl
theorem by_41 : byT Tryd.prog 41 = some 8 := by kernel_rfl
theorem ag_41 : aggT Tryd.prog 41 = false := by kernel_rfl
theorem kn_41 : knownT Tryd.prog 41 = true := by kernel_rfl
theorem it_41 : isIntT Tryd.prog 41 = false := by kernel_rfl
theorem pt_41 : isPtrT Tryd.prog 41 = false := by kernel_rfl
theorem zv_41 : zeroVs Tryd.prog 41 = some [V.sc (.nilFunc)] := by kernel_rfl
theorem zt_41 : zeroT Tryd.prog 41 = some (.nilFunc) := by kernel_rfl
theorem sz_42 : szT Tryd.prog 42 = some 1 := by kernel_rfl
theorem by_42 : byT Tryd.prog 42 = some 4 := by kernel_rfl
theorem ag_42 : aggT Tryd.prog 42 = false := by kernel_rfl
theorem kn_42 : knownT Tryd.prog 42 = true := by kernel_rfl
theorem it_42 : isIntT Tryd.prog 42 = true := by kernel_rfl
theorem pt_42 : isPtrT Tryd.prog 42 = false := by kernel_rfl
theorem zv_42 : zeroVs Tryd.prog 42 = some [V.sc (.int .u32 0)] := by kernel_rfl
theorem zt_42 : zeroT Tryd.prog 42 = some (.int .u32 0) := by kernel_rfl
theorem sz_43 : szT Tryd.prog 43 = some 1 := by kernel_rfl
theorem by_43 : byT Tryd.prog 43 = some 8 := by kernel_rfl
theorem ag_43 : aggT Tryd.prog 43 = false := by kernel_rfl
theorem kn_43 : knownT Tryd.prog 43 = true := by kernel_rfl
theorem it_43 : isIntT Tryd.prog 43 = false := by kernel_rfl
theorem pt_43 : isPtrT Tryd.prog 43 = false := by kernel_rfl
theorem zv_43 : zeroVs Tryd.prog 43 = some [V.sc (.nilFunc)] := by kernel_rfl
theorem zt_43 : zeroT Tryd.prog 43 = some (.nilFunc) := by kernel_rfl
theorem sz_44 : szT Tryd.prog 44 = some 1 := by kernel_rfl
theorem by_44 : byT Tryd.prog 44 = some 8 := by kernel_rfl
theorem ag_44 : aggT Tryd.prog 44 = false := by kernel_rfl
theorem kn_44 : knownT Tryd.prog 44 = true := by kernel_rfl
theorem it_44 : isIntT Tryd.prog 44 = false := by kernel_rfl
theorem pt_44 : isPtrT Tryd.prog 44 = false := by kernel_rfl
theorem zv_44 : zeroVs Tryd.prog 44 = some [V.sc (.nilFunc)] := by kernel_rfl
theorem zt_44 : zeroT Tryd.prog 44 = some (.nilFunc) := by kernel_rfl
theorem sz_45 : szT Tryd.prog 45 = some 1 := by kernel_rfl
theorem by_45 : byT Tryd.prog 45 = some 24 := by kernel_rfl
theorem ag_45 : aggT Tryd.prog 45 = false := by kernel_rfl
theorem kn_45 : knownT Tryd.prog 45 = true := by kernel_rfl
theorem it_45 : isIntT Tryd.prog 45 = false := by kernel_rfl
theorem pt_45 : isPtrT Tryd.prog 45 = false := by kernel_rfl
theorem zv_45 : zeroVs Tryd.prog 45 = some [V.sc (.slice none 0 0)] := by kernel_rfl
theorem zt_45 : zeroT Tryd.prog 45 = some (.slice none 0 0) := by kernel_rfl
theorem sz_46 : szT Tryd.prog 46 = some 1 := by kernel_rfl
theorem by_46 : byT Tryd.prog 46 = some 8 := by kernel_rfl
theorem ag_46 : aggT Tryd.prog 46 = false := by kernel_rfl
theorem kn_46 : knownT Tryd.prog 46 = true := by kernel_rfl
theorem it_46 : isIntT Tryd.prog 46 = false := by kernel_rfl
theorem pt_46 : isPtrT Tryd.prog 46 = false := by kernel_rfl
theorem zv_46 : zeroVs Tryd.prog 46 = some [V.sc (.nilFunc)] := by kernel_rfl
theorem zt_46 : zeroT Tryd.prog 46 = some (.nilFunc) := by kernel_rfl
theorem sz_47 : szT Tryd.prog 47 = some 1 := by kernel_rfl
theorem by_47 : byT Tryd.prog 47 = some 8 := by kernel_rfl
theorem ag_47 : aggT Tryd.prog 47 = false := by kernel_rfl
theorem kn_47 : knownT Tryd.prog 47 = true := by kernel_rfl
theorem it_47 : isIntT Tryd.prog 47 = false := by kernel_rfl
theorem pt_47 : isPtrT Tryd.prog 47 = false := by kernel_rfl
theorem zv_47 : zeroVs Tryd.prog 47 = some [V.sc (.nilFunc)] := by kernel_rfl
theorem zt_47 : zeroT Tryd.prog 47 = some (.nilFunc) := by kernel_rfl
theorem sz_48 : szT Tryd.prog 48 = some 1 := by kernel_rfl
theorem by_48 : byT Tryd.prog 48 = some 8 := by kernel_rfl
theorem ag_48 : aggT Tryd.prog 48 = false := by kernel_rfl
theorem kn_48 : knownT Tryd.prog 48 = true := by kernel_rfl
theorem it_48 : isIntT Tryd.prog 48 = false := by kernel_rfl
theorem pt_48 : isPtrT Tryd.prog 48 = false := by kernel_rfl
theorem zv_48 : zeroVs Tryd.prog 48 = some [V.sc (.nilFunc)] := by kernel_rfl
theorem zt_48 : zeroT Tryd.prog 48 = some (.nilFunc) := by kernel_rfl
theorem sz_49 : szT Tryd.prog 49 = some 1 := by kernel_rfl
theorem by_49 : byT Tryd.prog 49 = some 24 := by kernel_rfl
theorem ag_49 : aggT Tryd.prog 49 = false := by kernel_rfl
theorem kn_49 : knownT Tryd.prog 49 = true := by kernel_rfl
theorem it_49 : isIntT Tryd.prog 49 = false := by kernel_rfl
theorem pt_49 : isPtrT Tryd.prog 49 = false := by kernel_rfl
theorem zv_49 : zeroVs Tryd.prog 49 = some [V.sc (.slice none 0 0)] := by kernel_rfl
theorem zt_49 : zeroT Tryd.prog 49 = some (.slice none 0 0) := by kernel_rfl
theorem sz_50 : szT Tryd.prog 50 = some 1 := by kernel_rfl
theorem by_50 : byT Tryd.prog 50 = some 8 := by kernel_rfl
theorem ag_50 : aggT Tryd.prog 50 = false := by kernel_rfl
theorem kn_50 : knownT Tryd.prog 50 = true := by kernel_rfl
theorem it_50 : isIntT Tryd.prog 50 = false := by kernel_rfl
theorem pt_50 : isPtrT Tryd.prog 50 = false := by kernel_rfl
theorem zv_50 : zeroVs Tryd.prog 50 = some [V.sc (.nilFunc)] := by kernel_rfl
theorem zt_50 : zeroT Tryd.prog 50 = some (.nilFunc) := by kernel_rfl
theorem sz_52 : szT Tryd.prog 52 = some 1 := by kernel_rfl
theorem by_52 : byT Tryd.prog 52 = some 8 := by kernel_rfl
theorem ag_52 : aggT Tryd.prog 52 = false := by kernel_rfl
theorem kn_52 : knownT Tryd.prog 52 = true := by kernel_rfl
theorem it_52 : isIntT Tryd.prog 52 = false := by kernel_rfl
theorem pt_52 : isPtrT Tryd.prog 52 = false := by kernel_rfl
theorem zv_52 : zeroVs Tryd.prog 52 = some [V.sc (.nilFunc)] := by kernel_rfl
theorem zt_52 : zeroT Tryd.prog 52 = some (.nilFunc) := by kernel_rfl
theorem sz_54 : szT Tryd.prog 54 = some 1 := by kernel_rfl
theorem by_54 : byT Tryd.prog 54 = some 8 := by kernel_rfl
theorem ag_54 : aggT Tryd.prog 54 = false := by kernel_rfl
theorem kn_54 : knownT Tryd.prog 54 = true := by kernel_rfl
theorem it_54 : isIntT Tryd.prog 54 = false := by kernel_rfl
theorem pt_54 : isPtrT Tryd.prog 54 = false := by kernel_rfl
theorem zv_54 : zeroVs Tryd.prog 54 = some [V.sc (.nilFunc)] := by kernel_rfl
theorem zt_54 : zeroT Tryd.prog 54 = some (.nilFunc) := by kernel_rfl
theorem sz_55 : szT Tryd.prog 55 = some 3 := by kernel_rfl
theorem by_55 : byT Tryd.prog 55 = some 24 := by kernel_rfl
theorem ag_55 : aggT Tryd.prog 55 = true := by kernel_rfl
theorem kn_55 : knownT Tryd.prog 55 = true := by kernel_rfl
theorem it_55 : isIntT Tryd.prog 55 = false := by kernel_rfl
theorem pt_55 : isPtrT Tryd.prog 55 = false := by kernel_rfl
theorem el_55 : elemT Tryd.prog 55 = some 1 := by kernel_rfl
theorem pl_55 : placesT Tryd.prog 55 = none := by kernel_rfl
theorem sh_55 : shapeT Tryd.prog 55 = true := by kernel_rfl
theorem zv_55 : zeroVs Tryd.prog 55 = some [V.sc (.int .i64 0), V.sc (.int .i64 0), V.sc (.int .i64 0)] := by kernel_rfl
theorem zt_55 : zeroT Tryd.prog 55 = some (.agg #[.int .i64 0, .int .i64 0, .int .i64 0]) := by kernel_rfl
theorem sz_56 : szT Tryd.prog 56 = some 3 := by kernel_rfl
theorem by_56 : byT Tryd.prog 56 = some 24 := by kernel_rfl
theorem ag_56 : aggT Tryd.prog 56 = true := by kernel_rfl
theorem kn_56 : knownT Tryd.prog 56 = true := by kernel_rfl
theorem it_56 : isIntT Tryd.prog 56 = false := by kernel_rfl
theorem pt_56 : isPtrT Tryd.prog 56 = false := by kernel_rfl
theorem el_56 : elemT Tryd.prog 56 = some 1 := by kernel_rfl
theorem pl_56 : placesT Tryd.prog 56 = none := by kernel_rfl
theorem sh_56 : shapeT Tryd.prog 56 = true := by kernel_rfl
theorem zv_56 : zeroVs Tryd.prog 56 = some [V.sc (.int .i64 0), V.sc (.int .i64 0), V.sc (.int .i64 0)] := by kernel_rfl
theorem zt_56 : zeroT Tryd.prog 56 = some (.agg #[.int .i64 0, .int .i64 0, .int .i64 0]) := by kernel_rfl
theorem sz_57 : szT Tryd.prog 57 = some 1 := by kernel_rfl
theorem by_57 : byT Tryd.prog 57 = some 24 := by kernel_rfl
theorem ag_57 : aggT Tryd.prog 57 = false := by kernel_rfl
theorem kn_57 : knownT Tryd.prog 57 = true := by kernel_rfl
theorem it_57 : isIntT Tryd.prog 57 = false := by kernel_rfl
theorem pt_57 : isPtrT Tryd.prog 57 = false := by kernel_rfl
theorem zv_57 : zeroVs Tryd.prog 57 = some [V.sc (.slice none 0 0)] := by kernel_rfl
theorem zt_57 : zeroT Tryd.prog 57 = some (.slice none 0 0) := by kernel_rfl
theorem sz_58 : szT Tryd.prog 58 = some 1 := by kernel_rfl
theorem by_58 : byT Tryd.prog 58 = some 24 := by kernel_rfl
theorem ag_58 : aggT Tryd.prog 58 = false := by kernel_rfl
theorem kn_58 : knownT Tryd.prog 58 = true := by kernel_rfl
theorem it_58 : isIntT Tryd.prog 58 = false := by kernel_rfl
theorem pt_58 : isPtrT Tryd.prog 58 = false := by kernel_rfl
theorem zv_58 : zeroVs Tryd.prog 58 = some [V.sc (.slice none 0 0)] := by kernel_rfl
theorem zt_58 : zeroT Tryd.prog 58 = some (.slice none 0 0) := by kernel_rfl
theorem sz_59 : szT Tryd.prog 59 = some 10 := by kernel_rfl
theorem by_59 : byT Tryd.prog 59 = some 112 := by kernel_rfl
theorem ag_59 : aggT Tryd.prog 59 = true := by kernel_rfl
theorem kn_59 : knownT Tryd.prog 59 = true := by kernel_rfl
theorem it_59 : isIntT Tryd.prog 59 = false := by kernel_rfl
theorem pt_59 : isPtrT Tryd.prog 59 = false := by kernel_rfl
theorem pl_59 : placesT Tryd.prog 59 = some [(0, 1), (1, 1), (2, 1), (3, 1), (4, 1), (5, 3), (8, 1), (9, 1)] := by kernel_rfl
theorem sh_59 : shapeT Tryd.prog 59 = true := by kernel_rfl
theorem fo_59_0 : fieldOf Tryd.prog 59 0 = some (0, 3) := by kernel_rfl
theorem fo_59_1 : fieldOf Tryd.prog 59 1 = some (1, 3) := by kernel_rfl
theorem fo_59_2 : fieldOf Tryd.prog 59 2 = some (2, 3) := by kernel_rfl
theorem fo_59_3 : fieldOf Tryd.prog 59 3 = some (3, 3) := by kernel_rfl
theorem fo_59_4 : fieldOf Tryd.prog 59 4 = some (4, 42) := by kernel_rfl
theorem fo_59_5 : fieldOf Tryd.prog 59 5 = some (5, 56) := by kernel_rfl
theorem fo_59_6 : fieldOf Tryd.prog 59 6 = some (8, 57) := by kernel_rfl
theorem fo_59_7 : fieldOf Tryd.prog 59 7 = some (9, 58) := by kernel_rfl
theorem zv_59 : zeroVs Tryd.prog 59 = some [V.sc (.int .i64 0), V.sc (.int .i64 0), V.sc (.int .i64 0), V.sc (.int .i64 0), V.sc (.int .u32 0), V.sc (.int .i64 0), V.sc (.int .i64 0), V.sc (.int .i64 0), V.sc (.slice none 0 0), V.sc (.slice none 0 0)] := by kernel_rfl
theorem zt_59 : zeroT Tryd.prog 59 = some (.agg #[.int .i64 0, .int .i64 0, .int .i64 0, .int .i64 0, .int .u32 0, .int .i64 0, .int .i64 0, .int .i64 0, .slice none 0 0, .slice none 0 0]) := by kernel_rfl
theorem sz_60 : szT Tryd.prog 60 = some 10 := by kernel_rfl
theorem by_60 : byT Tryd.prog 60 = some 112 := by kernel_rfl
theorem ag_60 : aggT Tryd.prog 60 = true := by kernel_rfl
theorem kn_60 : knownT Tryd.prog 60 = true := by kernel_rfl
theorem it_60 : isIntT Tryd.prog 60 = false := by kernel_rfl
theorem pt_60 : isPtrT Tryd.prog 60 = false := by kernel_rfl
theorem pl_60 : placesT Tryd.prog 60 = some [(0, 1), (1, 1), (2, 1), (3, 1), (4, 1), (5, 3), (8, 1), (9, 1)] := by kernel_rfl
theorem sh_60 : shapeT Tryd.prog 60 = true := by kernel_rfl
theorem fo_60_0 : fieldOf Tryd.prog 60 0 = some (0, 3) := by kernel_rfl
theorem fo_60_1 : fieldOf Tryd.prog 60 1 = some (1, 3) := by kernel_rfl
theorem fo_60_2 : fieldOf Tryd.prog 60 2 = some (2, 3) := by kernel_rfl
theorem fo_60_3 : fieldOf Tryd.prog 60 3 = some (3, 3) := by kernel_rfl
theorem fo_60_4 : fieldOf Tryd.prog 60 4 = some (4, 42) := by kernel_rfl
theorem fo_60_5 : fieldOf Tryd.prog 60 5 = some (5, 56) := by kernel_rfl
theorem fo_60_6 : fieldOf Tryd.prog 60 6 = some (8, 57) := by kernel_rfl
theorem fo_60_7 : fieldOf Tryd.prog 60 7 = some (9, 58) := by kernel_rfl
theorem zv_60 : zeroVs Tryd.prog 60 = some [V.sc (.int .i64 0), V.sc (.int .i64 0), V.sc (.int .i64 0), V.sc (.int .i64 0), V.sc (.int .u32 0), V.sc (.int .i64 0), V.sc (.int .i64 0), V.sc (.int .i64 0), V.sc (.slice none 0 0), V.sc (.slice none 0 0)] := by kernel_rfl
theorem zt_60 : zeroT Tryd.prog 60 = some (.agg #[.int .i64 0, .int .i64 0, .int .i64 0, .int .i64 0, .int .u32 0, .int .i64 0, .int .i64 0, .int .i64 0, .slice none 0 0, .slice none 0 0]) := by kernel_rfl
theorem sz_61 : szT Tryd.prog 61 = some 1 := by kernel_rfl
theorem by_61 : byT Tryd.prog 61 = some 8 := by kernel_rfl
theorem ag_61 : aggT Tryd.prog 61 = false := by kernel_rfl
theorem kn_61 : knownT Tryd.prog 61 = true := by kernel_rfl
theorem it_61 : isIntT Tryd.prog 61 = false := by kernel_rfl
theorem pt_61 : isPtrT Tryd.prog 61 = false := by kernel_rfl
theorem zv_61 : zeroVs Tryd.prog 61 = some [V.sc (.nilFunc)] := by kernel_rfl
theorem zt_61 : zeroT Tryd.prog 61 = some (.nilFunc) := by kernel_rfl
theorem sz_62 : szT Tryd.prog 62 = some 1 := by kernel_rfl
theorem by_62 : byT Tryd.prog 62 = some 8 := by kernel_rfl
theorem ag_62 : aggT Tryd.prog 62 = false := by kernel_rfl
theorem kn_62 : knownT Tryd.prog 62 = true := by kernel_rfl
theorem it_62 : isIntT Tryd.prog 62 = false := by kernel_rfl
theorem pt_62 : isPtrT Tryd.prog 62 = false := by kernel_rfl
theorem zv_62 : zeroVs Tryd.prog 62 = some [V.sc (.nilFunc)] := by kernel_rfl
theorem zt_62 : zeroT Tryd.prog 62 = some (.nilFunc) := by kernel_rfl
theorem sz_63 : szT Tryd.prog 63 = some 10 := by kernel_rfl
theorem by_63 : byT Tryd.prog 63 = some 112 := by kernel_rfl
theorem ag_63 : aggT Tryd.prog 63 = true := by kernel_rfl
theorem kn_63 : knownT Tryd.prog 63 = true := by kernel_rfl
theorem it_63 : isIntT Tryd.prog 63 = false := by kernel_rfl
theorem pt_63 : isPtrT Tryd.prog 63 = false := by kernel_rfl
theorem pl_63 : placesT Tryd.prog 63 = some [(0, 1), (1, 1), (2, 1), (3, 1), (4, 1), (5, 3), (8, 1), (9, 1)] := by kernel_rfl
theorem sh_63 : shapeT Tryd.prog 63 = true := by kernel_rfl
theorem fo_63_0 : fieldOf Tryd.prog 63 0 = some (0, 3) := by kernel_rfl
theorem fo_63_1 : fieldOf Tryd.prog 63 1 = some (1, 3) := by kernel_rfl
theorem fo_63_2 : fieldOf Tryd.prog 63 2 = some (2, 3) := by kernel_rfl
theorem fo_63_3 : fieldOf Tryd.prog 63 3 = some (3, 3) := by kernel_rfl
theorem fo_63_4 : fieldOf Tryd.prog 63 4 = some (4, 42) := by kernel_rfl
theorem fo_63_5 : fieldOf Tryd.prog 63 5 = some (5, 56) := by kernel_rfl
theorem fo_63_6 : fieldOf Tryd.prog 63 6 = some (8, 57) := by kernel_rfl
theorem fo_63_7 : fieldOf Tryd.prog 63 7 = some (9, 58) := by kernel_rfl
theorem zv_63 : zeroVs Tryd.prog 63 = some [V.sc (.int .i64 0), V.sc (.int .i64 0), V.sc (.int .i64 0), V.sc (.int .i64 0), V.sc (.int .u32 0), V.sc (.int .i64 0), V.sc (.int .i64 0), V.sc (.int .i64 0), V.sc (.slice none 0 0), V.sc (.slice none 0 0)] := by kernel_rfl
theorem zt_63 : zeroT Tryd.prog 63 = some (.agg #[.int .i64 0, .int .i64 0, .int .i64 0, .int .i64 0, .int .u32 0, .int .i64 0, .int .i64 0, .int .i64 0, .slice none 0 0, .slice none 0 0]) := by kernel_rfl
theorem sz_64 : szT Tryd.prog 64 = some 1 := by kernel_rfl
theorem by_64 : byT Tryd.prog 64 = some 8 := by kernel_rfl
theorem ag_64 : aggT Tryd.prog 64 = false := by kernel_rfl
theorem kn_64 : knownT Tryd.prog 64 = true := by kernel_rfl
theorem it_64 : isIntT Tryd.prog 64 = false := by kernel_rfl
theorem pt_64 : isPtrT Tryd.prog 64 = false := by kernel_rfl
theorem zv_64 : zeroVs Tryd.prog 64 = some [V.sc (.nilFunc)] := by kernel_rfl
theorem zt_64 : zeroT Tryd.prog 64 = some (.nilFunc) := by kernel_rfl
theorem sz_65 : szT Tryd.prog 65 = some 1 := by kernel_rfl
theorem by_65 : byT Tryd.prog 65 = some 8 := by kernel_rfl
theorem ag_65 : aggT Tryd.prog 65 = false := by kernel_rfl
theorem kn_65 : knownT Tryd.prog 65 = true := by kernel_rfl
theorem it_65 : isIntT Tryd.prog 65 = false := by kernel_rfl
theorem pt_65 : isPtrT Tryd.prog 65 = false := by kernel_rfl
theorem zv_65 : zeroVs Tryd.prog 65 = some [V.sc (.nilFunc)] := by kernel_rfl
theorem zt_65 : zeroT Tryd.prog 65 = some (.nilFunc) := by kernel_rfl
theorem sz_66 : szT Tryd.prog 66 = some 1 := by kernel_rfl
theorem by_66 : byT Tryd.prog 66 = some 8 := by kernel_rfl
theorem ag_66 : aggT Tryd.prog 66 = false := by kernel_rfl
theorem kn_66 : knownT Tryd.prog 66 = true := by kernel_rfl
theorem it_66 : isIntT Tryd.prog 66 = false := by kernel_rfl
theorem pt_66 : isPtrT Tryd.prog 66 = false := by kernel_rfl
theorem zv_66 : zeroVs Tryd.prog 66 = some [V.sc (.nilFunc)] := by kernel_rfl
theorem zt_66 : zeroT Tryd.prog 66 = some (.nilFunc) := by kernel_rfl
theorem sz_67 : szT Tryd.prog 67 = some 1 := by kernel_rfl
theorem by_67 : byT Tryd.prog 67 = some 8 := by kernel_rfl
theorem ag_67 : aggT Tryd.prog 67 = false := by kernel_rfl
theorem kn_67 : knownT Tryd.prog 67 = true := by kernel_rfl
theorem it_67 : isIntT Tryd.prog 67 = false := by kernel_rfl
theorem pt_67 : isPtrT Tryd.prog 67 = false := by kernel_rfl
theorem zv_67 : zeroVs Tryd.prog 67 = some [V.sc (.nilFunc)] := by kernel_rfl
theorem zt_67 : zeroT Tryd.prog 67 = some (.nilFunc) := by kernel_rfl
theorem sz_68 : szT Tryd.prog 68 = some 1 := by kernel_rfl
theorem by_68 : byT Tryd.prog 68 = some 8 := by kernel_rfl
theorem ag_68 : aggT Tryd.prog 68 = false := by kernel_rfl
theorem kn_68 : knownT Tryd.prog 68 = true := by kernel_rfl
theorem it_68 : isIntT Tryd.prog 68 = false := by kernel_rfl
theorem pt_68 : isPtrT Tryd.prog 68 = false := by kernel_rfl
theorem zv_68 : zeroVs Tryd.prog 68 = some [V.sc (.nilFunc)] := by kernel_rfl
theorem zt_68 : zeroT Tryd.prog 68 = some (.nilFunc) := by kernel_rfl
theorem sz_69 : szT Tryd.prog 69 = some 2 := by kernel_rfl
theorem by_69 : byT Tryd.prog 69 = some 48 := by kernel_rfl
theorem ag_69 : aggT Tryd.prog 69 = true := by kernel_rfl
theorem kn_69 : knownT Tryd.prog 69 = true := by kernel_rfl
theorem it_69 : isIntT Tryd.prog 69 = false := by kernel_rfl
theorem pt_69 : isPtrT Tryd.prog 69 = false := by kernel_rfl
theorem el_69 : elemT Tryd.prog 69 = some 1 := by kernel_rfl
theorem pl_69 : placesT Tryd.prog 69 = none := by kernel_rfl
theorem sh_69 : shapeT Tryd.prog 69 = true := by kernel_rfl
theorem zv_69 : zeroVs Tryd.prog 69 = some [V.sc (.slice none 0 0), V.sc (.slice none 0 0)] := by kernel_rfl
theorem zt_69 : zeroT Tryd.prog 69 = some (.agg #[.slice none 0 0, .slice none 0 0]) := by kernel_rfl
theorem sz_70 : szT Tryd.prog 70 = some 1 := by kernel_rfl
theorem by_70 : byT Tryd.prog 70 = some 8 := by kernel_rfl
theorem ag_70 : aggT Tryd.prog 70 = false := by kernel_rfl
theorem kn_70 : knownT Tryd.prog 70 = true := by kernel_rfl
theorem it_70 : isIntT Tryd.prog 70 = false := by kernel_rfl
theorem pt_70 : isPtrT Tryd.prog 70 = false := by kernel_rfl
theorem zv_70 : zeroVs Tryd.prog 70 = some [V.sc (.nilFunc)] := by kernel_rfl
theorem zt_70 : zeroT Tryd.prog 70 = some (.nilFunc) := by kernel_rfl
theorem sz_71 : szT Tryd.prog 71 = some 1 := by kernel_rfl
theorem by_71 : byT Tryd.prog 71 = some 8 := by kernel_rfl
theorem ag_71 : aggT Tryd.prog 71 = false := by kernel_rfl
theorem kn_71 : knownT Tryd.prog 71 = true := by kernel_rfl
theorem it_71 : isIntT Tryd.prog 71 = false := by kernel_rfl
theorem pt_71 : isPtrT Tryd.prog 71 = false := by kernel_rfl
theorem zv_71 : zeroVs Tryd.prog 71 = some [V.sc (.nilFunc)] := by kernel_rfl
theorem zt_71 : zeroT Tryd.prog 71 = some (.nilFunc) := by kernel_rfl
theorem sz_73 : szT Tryd.prog 73 = some 1 := by kernel_rfl
theorem by_73 : byT Tryd.prog 73 = some 8 := by kernel_rfl
theorem ag_73 : aggT Tryd.prog 73 = false := by kernel_rfl
theorem kn_73 : knownT Tryd.prog 73 = true := by kernel_rfl
theorem it_73 : isIntT Tryd.prog 73 = false := by kernel_rfl
theorem pt_73 : isPtrT Tryd.prog 73 = false := by kernel_rfl
theorem zv_73 : zeroVs Tryd.prog 73 = some [V.sc (.nilFunc)] := by kernel_rfl
theorem zt_73 : zeroT Tryd.prog 73 = some (.nilFunc) := by kernel_rfl
theorem sz_74 : szT Tryd.prog 74 = some 1 := by kernel_rfl
theorem by_74 : byT Tryd.prog 74 = some 8 := by kernel_rfl
theorem ag_74 : aggT Tryd.prog 74 = false := by kernel_rfl
theorem kn_74 : knownT Tryd.prog 74 = true := by kernel_rfl
theorem it_74 : isIntT Tryd.prog 74 = false := by kernel_rfl
theorem pt_74 : isPtrT Tryd.prog 74 = false := by kernel_rfl
theorem zv_74 : zeroVs Tryd.prog 74 = some [V.sc (.nilFunc)] := by kernel_rfl
theorem zt_74 : zeroT Tryd.prog 74 = some (.nilFunc) := by kernel_rfl
theorem sz_76 : szT Tryd.prog 76 = some 1 := by kernel_rfl
theorem by_76 : byT Tryd.prog 76 = some 8 := by kernel_rfl
theorem ag_76 : aggT Tryd.prog 76 = false := by kernel_rfl
theorem kn_76 : knownT Tryd.prog 76 = true := by kernel_rfl
theorem it_76 : isIntT Tryd.prog 76 = false := by kernel_rfl
theorem pt_76 : isPtrT Tryd.prog 76 = false := by kernel_rfl
theorem zv_76 : zeroVs Tryd.prog 76 = some [V.sc (.nilFunc)] := by kernel_rfl
theorem zt_76 : zeroT Tryd.prog 76 = some (.nilFunc) := by kernel_rfl
theorem sz_77 : szT Tryd.prog 77 = some 3 := by kernel_rfl
theorem by_77 : byT Tryd.prog 77 = some 40 := by kernel_rfl
theorem ag_77 : aggT Tryd.prog 77 = true := by kernel_rfl
theorem kn_77 : knownT Tryd.prog 77 = true := by kernel_rfl
theorem it_77 : isIntT Tryd.prog 77 = false := by kernel_rfl
theorem pt_77 : isPtrT Tryd.prog 77 = false := by kernel_rfl
theorem pl_77 : placesT Tryd.prog 77 = some [(0, 1), (1, 1), (2, 1)] := by kernel_rfl
theorem sh_77 : shapeT Tryd.prog 77 = true := by kernel_rfl
theorem fo_77_0 : fieldOf Tryd.prog 77 0 = some (0, 9) := by kernel_rfl
theorem fo_77_1 : fieldOf Tryd.prog 77 1 = some (1, 9) := by kernel_rfl
theorem fo_77_2 : fieldOf Tryd.prog 77 2 = some (2, 4) := by kernel_rfl
theorem zv_77 : zeroVs Tryd.prog 77 = some [V.sc (.string ⟨#[]⟩), V.sc (.string ⟨#[]⟩), V.sc (.bool false)] := by kernel_rfl
theorem zt_77 : zeroT Tryd.prog 77 = some (.agg #[.string ⟨#[]⟩, .string ⟨#[]⟩, .bool false]) := by kernel_rfl
theorem sz_78 : szT Tryd.prog 78 = some 3 := by kernel_rfl
theorem by_78 : byT Tryd.prog 78 = some 40 := by kernel_rfl
theorem ag_78 : aggT Tryd.prog 78 = true := by kernel_rfl
theorem kn_78 : knownT Tryd.prog 78 = true := by kernel_rfl
theorem it_78 : isIntT Tryd.prog 78 = false := by kernel_rfl
theorem pt_78 : isPtrT Tryd.prog 78 = false := by kernel_rfl
theorem pl_78 : placesT Tryd.prog 78 = some [(0, 1), (1, 1), (2, 1)] := by kernel_rfl
theorem sh_78 : shapeT Tryd.prog 78 = true := by kernel_rfl
theorem fo_78_0 : fieldOf Tryd.prog 78 0 = some (0, 9) := by kernel_rfl
theorem fo_78_1 : fieldOf Tryd.prog 78 1 = some (1, 9) := by kernel_rfl
theorem fo_78_2 : fieldOf Tryd.prog 78 2 = some (2, 4) := by kernel_rfl
theorem zv_78 : zeroVs Tryd.prog 78 = some [V.sc (.string ⟨#[]⟩), V.sc (.string ⟨#[]⟩), V.sc (.bool false)] := by kernel_rfl
theorem zt_78 : zeroT Tryd.prog 78 = some (.agg #[.string ⟨#[]⟩, .string ⟨#[]⟩, .bool false]) := by kernel_rfl
theorem sz_79 : szT Tryd.prog 79 = some 1 := by kernel_rfl
theorem by_79 : byT Tryd.prog 79 = some 8 := by kernel_rfl
theorem ag_79 : aggT Tryd.prog 79 = false := by kernel_rfl
theorem kn_79 : knownT Tryd.prog 79 = true := by kernel_rfl
theorem it_79 : isIntT Tryd.prog 79 = false := by kernel_rfl
theorem pt_79 : isPtrT Tryd.prog 79 = false := by kernel_rfl
theorem zv_79 : zeroVs Tryd.prog 79 = some [V.sc (.nilFunc)] := by kernel_rfl
theorem zt_79 : zeroT Tryd.prog 79 = some (.nilFunc) := by kernel_rfl
theorem sz_80 : szT Tryd.prog 80 = some 6 := by kernel_rfl
theorem by_80 : byT Tryd.prog 80 = some 64 := by kernel_rfl
theorem ag_80 : aggT Tryd.prog 80 = true := by kernel_rfl
theorem kn_80 : knownT Tryd.prog 80 = true := by kernel_rfl
theorem it_80 : isIntT Tryd.prog 80 = false := by kernel_rfl
theorem pt_80 : isPtrT Tryd.prog 80 = false := by kernel_rfl
theorem pl_80 : placesT Tryd.prog 80 = some [(0, 1), (1, 1), (2, 3), (5, 1)] := by kernel_rfl
theorem sh_80 : shapeT Tryd.prog 80 = true := by kernel_rfl
theorem fo_80_0 : fieldOf Tryd.prog 80 0 = some (0, 3) := by kernel_rfl
theorem fo_80_1 : fieldOf Tryd.prog 80 1 = some (1, 2) := by kernel_rfl
theorem fo_80_2 : fieldOf Tryd.prog 80 2 = some (2, 56) := by kernel_rfl
theorem fo_80_3 : fieldOf Tryd.prog 80 3 = some (5, 57) := by kernel_rfl
theorem zv_80 : zeroVs Tryd.prog 80 = some [V.sc (.int .i64 0), V.sc (.int .i64 0), V.sc (.int .i64 0), V.sc (.int .i64 0), V.sc (.int .i64 0), V.sc (.slice none 0 0)] := by kernel_rfl
theorem zt_80 : zeroT Tryd.prog 80 = some (.agg #[.int .i64 0, .int .i64 0, .int .i64 0, .int .i64 0, .int .i64 0, .slice none 0 0]) := by kernel_rfl
theorem sz_81 : szT Tryd.prog 81 = some 6 := by kernel_rfl
theorem by_81 : byT Tryd.prog 81 = some 64 := by kernel_rfl
theorem ag_81 : aggT Tryd.prog 81 = true := by kernel_rfl
theorem kn_81 : knownT Tryd.prog 81 = true := by kernel_rfl
theorem it_81 : isIntT Tryd.prog 81 = false := by kernel_rfl
theorem pt_81 : isPtrT Tryd.prog 81 = false := by kernel_rfl
theorem pl_81 : placesT Tryd.prog 81 = some [(0, 1), (1, 1), (2, 3), (5, 1)] := by kernel_rfl
theorem sh_81 : shapeT Tryd.prog 81 = true := by kernel_rfl
theorem fo_81_0 : fieldOf Tryd.prog 81 0 = some (0, 3) := by kernel_rfl
theorem fo_81_1 : fieldOf Tryd.prog 81 1 = some (1, 2) := by kernel_rfl
theorem fo_81_2 : fieldOf Tryd.prog 81 2 = some (2, 56) := by kernel_rfl
theorem fo_81_3 : fieldOf Tryd.prog 81 3 = some (5, 57) := by kernel_rfl
theorem zv_81 : zeroVs Tryd.prog 81 = some [V.sc (.int .i64 0), V.sc (.int .i64 0), V.sc (.int .i64 0), V.sc (.int .i64 0), V.sc (.int .i64 0), V.sc (.slice none 0 0)] := by kernel_rfl
theorem zt_81 : zeroT Tryd.prog 81 = some (.agg #[.int .i64 0, .int .i64 0, .int .i64 0, .int .i64 0, .int .i64 0, .slice none 0 0]) := by kernel_rfl
theorem sz_82 : szT Tryd.prog 82 = some 1 := by kernel_rfl
theorem by_82 : byT Tryd.prog 82 = some 8 := by kernel_rfl
theorem ag_82 : aggT Tryd.prog 82 = false := by kernel_rfl
theorem kn_82 : knownT Tryd.prog 82 = true := by kernel_rfl
theorem it_82 : isIntT Tryd.prog 82 = false := by kernel_rfl
theorem pt_82 : isPtrT Tryd.prog 82 = false := by kernel_rfl
theorem zv_82 : zeroVs Tryd.prog 82 = some [V.sc (.nilFunc)] := by kernel_rfl
theorem zt_82 : zeroT Tryd.prog 82 = some (.nilFunc) := by kernel_rfl
theorem sz_83 : szT Tryd.prog 83 = some 1 := by kernel_rfl
theorem by_83 : byT Tryd.prog 83 = some 8 := by kernel_rfl
theorem ag_83 : aggT Tryd.prog 83 = false := by kernel_rfl
theorem kn_83 : knownT Tryd.prog 83 = true := by kernel_rfl
theorem it_83 : isIntT Tryd.prog 83 = false := by kernel_rfl
theorem pt_83 : isPtrT Tryd.prog 83 = false := by kernel_rfl
theorem zv_83 : zeroVs Tryd.prog 83 = some [V.sc (.nilFunc)] := by kernel_rfl
theorem zt_83 : zeroT Tryd.prog 83 = some (.nilFunc) := by kernel_rfl
theorem sz_85 : szT Tryd.prog 85 = some 1 := by kernel_rfl
theorem by_85 : byT Tryd.prog 85 = some 8 := by kernel_rfl
theorem ag_85 : aggT Tryd.prog 85 = false := by kernel_rfl
theorem kn_85 : knownT Tryd.prog 85 = true := by kernel_rfl
theorem it_85 : isIntT Tryd.prog 85 = false := by kernel_rfl
theorem pt_85 : isPtrT Tryd.prog 85 = false := by kernel_rfl
theorem zv_85 : zeroVs Tryd.prog 85 = some [V.sc (.nilFunc)] := by kernel_rfl
theorem zt_85 : zeroT Tryd.prog 85 = some (.nilFunc) := by kernel_rfl
theorem sz_87 : szT Tryd.prog 87 = some 1 := by kernel_rfl
theorem by_87 : byT Tryd.prog 87 = some 8 := by kernel_rfl
theorem ag_87 : aggT Tryd.prog 87 = false := by kernel_rfl
theorem kn_87 : knownT Tryd.prog 87 = true := by kernel_rfl
theorem it_87 : isIntT Tryd.prog 87 = false := by kernel_rfl
theorem pt_87 : isPtrT Tryd.prog 87 = false := by kernel_rfl
theorem zv_87 : zeroVs Tryd.prog 87 = some [V.sc (.nilFunc)] := by kernel_rfl
theorem zt_87 : zeroT Tryd.prog 87 = some (.nilFunc) := by kernel_rfl
theorem sz_88 : szT Tryd.prog 88 = some 1 := by kernel_rfl
theorem by_88 : byT Tryd.prog 88 = some 8 := by kernel_rfl
theorem ag_88 : aggT Tryd.prog 88 = false := by kernel_rfl
theorem kn_88 : knownT Tryd.prog 88 = true := by kernel_rfl
theorem it_88 : isIntT Tryd.prog 88 = false := by kernel_rfl
theorem pt_88 : isPtrT Tryd.prog 88 = false := by kernel_rfl
theorem zv_88 : zeroVs Tryd.prog 88 = some [V.sc (.nilFunc)] := by kernel_rfl
theorem zt_88 : zeroT Tryd.prog 88 = some (.nilFunc) := by kernel_rfl
theorem sz_89 : szT Tryd.prog 89 = some 1 := by kernel_rfl
theorem by_89 : byT Tryd.prog 89 = some 8 := by kernel_rfl
theorem ag_89 : aggT Tryd.prog 89 = false := by kernel_rfl
theorem kn_89 : knownT Tryd.prog 89 = true := by kernel_rfl
theorem it_89 : isIntT Tryd.prog 89 = false := by kernel_rfl
theorem pt_89 : isPtrT Tryd.prog 89 = false := by kernel_rfl
theorem zv_89 : zeroVs Tryd.prog 89 = some [V.sc (.nilFunc)] := by kernel_rfl
theorem zt_89 : zeroT Tryd.prog 89 = some (.nilFunc) := by kernel_rfl
theorem sz_90 : szT Tryd.prog 90 = some 1 := by kernel_rfl
theorem by_90 : byT Tryd.prog 90 = some 8 := by kernel_rfl
theorem ag_90 : aggT Tryd.prog 90 = false := by kernel_rfl
theorem kn_90 : knownT Tryd.prog 90 = true := by kernel_rfl
theorem it_90 : isIntT Tryd.prog 90 = false := by kernel_rfl
theorem pt_90 : isPtrT Tryd.prog 90 = false := by kernel_rfl
theorem zv_90 : zeroVs Tryd.prog 90 = some [V.sc (.nilFunc)] := by kernel_rfl
theorem zt_90 : zeroT Tryd.prog 90 = some (.nilFunc) := by kernel_rfl
theorem sz_91 : szT Tryd.prog 91 = some 1 := by kernel_rfl
theorem by_91 : byT Tryd.prog 91 = some 8 := by kernel_rfl
theorem ag_91 : aggT Tryd.prog 91 = false := by kernel_rfl
theorem kn_91 : knownT Tryd.prog 91 = true := by kernel_rfl
theorem it_91 : isIntT Tryd.prog 91 = false := by kernel_rfl
theorem pt_91 : isPtrT Tryd.prog 91 = false := by kernel_rfl
theorem zv_91 : zeroVs Tryd.prog 91 = some [V.sc (.nilFunc)] := by kernel_rfl
theorem zt_91 : zeroT Tryd.prog 91 = some (.nilFunc) := by kernel_rfl
theorem sz_92 : szT Tryd.prog 92 = some 1 := by kernel_rfl
theorem by_92 : byT Tryd.prog 92 = some 8 := by kernel_rfl
theorem ag_92 : aggT Tryd.prog 92 = false := by kernel_rfl
theorem kn_92 : knownT Tryd.prog 92 = true := by kernel_rfl
theorem it_92 : isIntT Tryd.prog 92 = false := by kernel_rfl
theorem pt_92 : isPtrT Tryd.prog 92 = false := by kernel_rfl
theorem zv_92 : zeroVs Tryd.prog 92 = some [V.sc (.nilFunc)] := by kernel_rfl
theorem zt_92 : zeroT Tryd.prog 92 = some (.nilFunc) := by kernel_rfl
theorem sz_93 : szT Tryd.prog 93 = some 1 := by kernel_rfl
theorem by_93 : byT Tryd.prog 93 = some 8 := by kernel_rfl
theorem ag_93 : aggT Tryd.prog 93 = false := by kernel_rfl
theorem kn_93 : knownT Tryd.prog 93 = true := by kernel_rfl
theorem it_93 : isIntT Tryd.prog 93 = false := by kernel_rfl
theorem pt_93 : isPtrT Tryd.prog 93 = false := by kernel_rfl
theorem zv_93 : zeroVs Tryd.prog 93 = some [V.sc (.nilFunc)] := by kernel_rfl
theorem zt_93 : zeroT Tryd.prog 93 = some (.nilFunc) := by kernel_rfl
theorem sz_94 : szT Tryd.prog 94 = some 1 := by kernel_rfl
theorem by_94 : byT Tryd.prog 94 = some 8 := by kernel_rfl
theorem ag_94 : aggT Tryd.prog 94 = false := by kernel_rfl
theorem kn_94 : knownT Tryd.prog 94 = true := by kernel_rfl
theorem it_94 : isIntT Tryd.prog 94 = false := by kernel_rfl
theorem pt_94 : isPtrT Tryd.prog 94 = false := by kernel_rfl
theorem zv_94 : zeroVs Tryd.prog 94 = some [V.sc (.nilFunc)] := by kernel_rfl
theorem zt_94 : zeroT Tryd.prog 94 = some (.nilFunc) := by kernel_rfl
theorem sz_95 : szT Tryd.prog 95 = some 1 := by kernel_rfl
theorem by_95 : byT Tryd.prog 95 = some 8 := by kernel_rfl
theorem ag_95 : aggT Tryd.prog 95 = false := by kernel_rfl
theorem kn_95 : knownT Tryd.prog 95 = true := by kernel_rfl
theorem it_95 : isIntT Tryd.prog 95 = false := by kernel_rfl
theorem pt_95 : isPtrT Tryd.prog 95 = false := by kernel_rfl
theorem zv_95 : zeroVs Tryd.prog 95 = some [V.sc (.nilFunc)] := by kernel_rfl
theorem zt_95 : zeroT Tryd.prog 95 = some (.nilFunc) := by kernel_rfl
theorem sz_96 : szT Tryd.prog 96 = some 1 := by kernel_rfl
theorem by_96 : byT Tryd.prog 96 = some 8 := by kernel_rfl
theorem ag_96 : aggT Tryd.prog 96 = false := by kernel_rfl
theorem kn_96 : knownT Tryd.prog 96 = true := by kernel_rfl
theorem it_96 : isIntT Tryd.prog 96 = false := by kernel_rfl
theorem pt_96 : isPtrT Tryd.prog 96 = false := by kernel_rfl
theorem zv_96 : zeroVs Tryd.prog 96 = some [V.sc (.nilFunc)] := by kernel_rfl
theorem zt_96 : zeroT Tryd.prog 96 = some (.nilFunc) := by kernel_rfl
theorem sz_97 : szT Tryd.prog 97 = some 1 := by kernel_rfl
theorem by_97 : byT Tryd.prog 97 = some 8 := by kernel_rfl
theorem ag_97 : aggT Tryd.prog 97 = false := by kernel_rfl
theorem kn_97 : knownT Tryd.prog 97 = true := by kernel_rfl
theorem it_97 : isIntT Tryd.prog 97 = true := by kernel_rfl
theorem pt_97 : isPtrT Tryd.prog 97 = false := by kernel_rfl
theorem zv_97 : zeroVs Tryd.prog 97 = some [V.sc (.int .u64 0)] := by kernel_rfl
theorem zt_97 : zeroT Tryd.prog 97 = some (.int .u64 0) := by kernel_rfl
theorem sz_98 : szT Tryd.prog 98 = some 1 := by kernel_rfl
theorem by_98 : byT Tryd.prog 98 = some 8 := by kernel_rfl
theorem ag_98 : aggT Tryd.prog 98 = false := by kernel_rfl
theorem kn_98 : knownT Tryd.prog 98 = true := by kernel_rfl
theorem it_98 : isIntT Tryd.prog 98 = false := by kernel_rfl
theorem pt_98 : isPtrT Tryd.prog 98 = false := by kernel_rfl
theorem zv_98 : zeroVs Tryd.prog 98 = some [V.sc (.nilFunc)] := by kernel_rfl
theorem zt_98 : zeroT Tryd.prog 98 = some (.nilFunc) := by kernel_rfl
theorem sz_99 : szT Tryd.prog 99 = some 1 := by kernel_rfl
theorem by_99 : byT Tryd.prog 99 = some 24 := by kernel_rfl
theorem ag_99 : aggT Tryd.prog 99 = false := by kernel_rfl
theorem kn_99 : knownT Tryd.prog 99 = true := by kernel_rfl
theorem it_99 : isIntT Tryd.prog 99 = false := by kernel_rfl
theorem pt_99 : isPtrT Tryd.prog 99 = false := by kernel_rfl
theorem zv_99 : zeroVs Tryd.prog 99 = some [V.sc (.slice none 0 0)] := by kernel_rfl
theorem zt_99 : zeroT Tryd.prog 99 = some (.slice none 0 0) := by kernel_rfl
theorem sz_100 : szT Tryd.prog 100 = some 1 := by kernel_rfl
theorem by_100 : byT Tryd.prog 100 = some 8 := by kernel_rfl
theorem ag_100 : aggT Tryd.prog 100 = false := by kernel_rfl
theorem kn_100 : knownT Tryd.prog 100 = true := by kernel_rfl
theorem it_100 : isIntT Tryd.prog 100 = false := by kernel_rfl
theorem pt_100 : isPtrT Tryd.prog 100 = false := by kernel_rfl
theorem zv_100 : zeroVs Tryd.prog 100 = some [V.sc (.nilFunc)] := by kernel_rfl
theorem zt_100 : zeroT Tryd.prog 100 = some (.nilFunc) := by kernel_rfl
theorem sz_101 : szT Tryd.prog 101 = some 1 := by kernel_rfl
theorem by_101 : byT Tryd.prog 101 = some 8 := by kernel_rfl
theorem ag_101 : aggT Tryd.prog 101 = false := by kernel_rfl
theorem kn_101 : knownT Tryd.prog 101 = true := by kernel_rfl
theorem it_101 : isIntT Tryd.prog 101 = false := by kernel_rfl
theorem pt_101 : isPtrT Tryd.prog 101 = false := by kernel_rfl
theorem zv_101 : zeroVs Tryd.prog 101 = some [V.sc (.nilFunc)] := by kernel_rfl
theorem zt_101 : zeroT Tryd.prog 101 = some (.nilFunc) := by kernel_rfl
theorem sz_102 : szT Tryd.prog 102 = some 1 := by kernel_rfl
theorem by_102 : byT Tryd.prog 102 = some 8 := by kernel_rfl
theorem ag_102 : aggT Tryd.prog 102 = false := by kernel_rfl
theorem kn_102 : knownT Tryd.prog 102 = true := by kernel_rfl
theorem it_102 : isIntT Tryd.prog 102 = false := by kernel_rfl
theorem pt_102 : isPtrT Tryd.prog 102 = false := by kernel_rfl
theorem zv_102 : zeroVs Tryd.prog 102 = some [V.sc (.nilFunc)] := by kernel_rfl
theorem zt_102 : zeroT Tryd.prog 102 = some (.nilFunc) := by kernel_rfl
theorem sz_103 : szT Tryd.prog 103 = some 1 := by kernel_rfl
theorem by_103 : byT Tryd.prog 103 = some 8 := by kernel_rfl
theorem ag_103 : aggT Tryd.prog 103 = false := by kernel_rfl
theorem kn_103 : knownT Tryd.prog 103 = true := by kernel_rfl
theorem it_103 : isIntT Tryd.prog 103 = false := by kernel_rfl
theorem pt_103 : isPtrT Tryd.prog 103 = false := by kernel_rfl
theorem zv_103 : zeroVs Tryd.prog 103 = some [V.sc (.nilFunc)] := by kernel_rfl
theorem zt_103 : zeroT Tryd.prog 103 = some (.nilFunc) := by kernel_rfl
theorem sz_104 : szT Tryd.prog 104 = some 1 := by kernel_rfl
theorem by_104 : byT Tryd.prog 104 = some 8 := by kernel_rfl
theorem ag_104 : aggT Tryd.prog 104 = false := by kernel_rfl
theorem kn_104 : knownT Tryd.prog 104 = true := by kernel_rfl
theorem it_104 : isIntT Tryd.prog 104 = false := by kernel_rfl
theorem pt_104 : isPtrT Tryd.prog 104 = false := by kernel_rfl
theorem zv_104 : zeroVs Tryd.prog 104 = some [V.sc (.nilFunc)] := by kernel_rfl
theorem zt_104 : zeroT Tryd.prog 104 = some (.nilFunc) := by kernel_rfl
theorem sz_105 : szT Tryd.prog 105 = some 1 := by kernel_rfl
theorem by_105 : byT Tryd.prog 105 = some 8 := by kernel_rfl
theorem ag_105 : aggT Tryd.prog 105 = false := by kernel_rfl
theorem kn_105 : knownT Tryd.prog 105 = true := by kernel_rfl
theorem it_105 : isIntT Tryd.prog 105 = false := by kernel_rfl
theorem pt_105 : isPtrT Tryd.prog 105 = true := by kernel_rfl
theorem zv_105 : zeroVs Tryd.prog 105 = some [V.sc (.pointer none)] := by kernel_rfl
theorem zt_105 : zeroT Tryd.prog 105 = some (.pointer none) := by kernel_rfl
theorem sz_106 : szT Tryd.prog 106 = some 2 := by kernel_rfl
theorem by_106 : byT Tryd.prog 106 = some 32 := by kernel_rfl
theorem ag_106 : aggT Tryd.prog 106 = true := by kernel_rfl
theorem kn_106 : knownT Tryd.prog 106 = true := by kernel_rfl
theorem it_106 : isIntT Tryd.prog 106 = false := by kernel_rfl
theorem pt_106 : isPtrT Tryd.prog 106 = false := by kernel_rfl
theorem pl_106 : placesT Tryd.prog 106 = some [(0, 1), (1, 1)] := by kernel_rfl
theorem sh_106 : shapeT Tryd.prog 106 = true := by kernel_rfl
theorem fo_106_0 : fieldOf Tryd.prog 106 0 = some (0, 22) := by kernel_rfl
theorem fo_106_1 : fieldOf Tryd.prog 106 1 = some (1, 26) := by kernel_rfl
theorem zv_106 : zeroVs Tryd.prog 106 = some [V.sc (.slice none 0 0), V.sc (.int .i64 0)] := by kernel_rfl
theorem zt_106 : zeroT Tryd.prog 106 = some (.agg #[.slice none 0 0, .int .i64 0]) := by kernel_rfl
theorem sz_107 : szT Tryd.prog 107 = some 2 := by kernel_rfl
theorem by_107 : byT Tryd.prog 107 = some 32 := by kernel_rfl
theorem ag_107 : aggT Tryd.prog 107 = true := by kernel_rfl
theorem kn_107 : knownT Tryd.prog 107 = true := by kernel_rfl
theorem it_107 : isIntT Tryd.prog 107 = false := by kernel_rfl
theorem pt_107 : isPtrT Tryd.prog 107 = false := by kernel_rfl
theorem pl_107 : placesT Tryd.prog 107 = some [(0, 1), (1, 1)] := by kernel_rfl
theorem sh_107 : shapeT Tryd.prog 107 = true := by kernel_rfl
theorem fo_107_0 : fieldOf Tryd.prog 107 0 = some (0, 22) := by kernel_rfl
theorem fo_107_1 : fieldOf Tryd.prog 107 1 = some (1, 26) := by kernel_rfl
theorem zv_107 : zeroVs Tryd.prog 107 = some [V.sc (.slice none 0 0), V.sc (.int .i64 0)] := by kernel_rfl
theorem zt_107 : zeroT Tryd.prog 107 = some (.agg #[.slice none 0 0, .int .i64 0]) := by kernel_rfl
theorem sz_108 : szT Tryd.prog 108 = some 1 := by kernel_rfl
theorem by_108 : byT Tryd.prog 108 = some 8 := by kernel_rfl
theorem ag_108 : aggT Tryd.prog 108 = false := by kernel_rfl
theorem kn_108 : knownT Tryd.prog 108 = true := by kernel_rfl
theorem it_108 : isIntT Tryd.prog 108 = false := by kernel_rfl
theorem pt_108 : isPtrT Tryd.prog 108 = false := by kernel_rfl
theorem zv_108 : zeroVs Tryd.prog 108 = some [V.sc (.nilFunc)] := by kernel_rfl
theorem zt_108 : zeroT Tryd.prog 108 = some (.nilFunc) := by kernel_rfl
theorem sz_109 : szT Tryd.prog 109 = some 1 := by kernel_rfl
theorem by_109 : byT Tryd.prog 109 = some 8 := by kernel_rfl
theorem ag_109 : aggT Tryd.prog 109 = false := by kernel_rfl
theorem kn_109 : knownT Tryd.prog 109 = true := by kernel_rfl
theorem it_109 : isIntT Tryd.prog 109 = false := by kernel_rfl
theorem pt_109 : isPtrT Tryd.prog 109 = false := by kernel_rfl
theorem zv_109 : zeroVs Tryd.prog 109 = some [V.sc (.nilFunc)] := by kernel_rfl
theorem zt_109 : zeroT Tryd.prog 109 = some (.nilFunc) := by kernel_rfl
theorem sz_110 : szT Tryd.prog 110 = some 1 := by kernel_rfl
theorem by_110 : byT Tryd.prog 110 = some 8 := by kernel_rfl
theorem ag_110 : aggT Tryd.prog 110 = false := by kernel_rfl
theorem kn_110 : knownT Tryd.prog 110 = true := by kernel_rfl
theorem it_110 : isIntT Tryd.prog 110 = false := by kernel_rfl
theorem pt_110 : isPtrT Tryd.prog 110 = false := by kernel_rfl
theorem zv_110 : zeroVs Tryd.prog 110 = some [V.sc (.nilFunc)] := by kernel_rfl
theorem zt_110 : zeroT Tryd.prog 110 = some (.nilFunc) := by kernel_rfl
theorem sz_111 : szT Tryd.prog 111 = some 1 := by kernel_rfl
theorem by_111 : byT Tryd.prog 111 = some 8 := by kernel_rfl
theorem ag_111 : aggT Tryd.prog 111 = false := by kernel_rfl
theorem kn_111 : knownT Tryd.prog 111 = true := by kernel_rfl
theorem it_111 : isIntT Tryd.prog 111 = false := by kernel_rfl
theorem pt_111 : isPtrT Tryd.prog 111 = false := by kernel_rfl
theorem zv_111 : zeroVs Tryd.prog 111 = some [V.sc (.nilFunc)] := by kernel_rfl
theorem zt_111 : zeroT Tryd.prog 111 = some (.nilFunc) := by kernel_rfl
theorem sz_112 : szT Tryd.prog 112 = some 1 := by kernel_rfl
theorem by_112 : byT Tryd.prog 112 = some 8 := by kernel_rfl
theorem ag_112 : aggT Tryd.prog 112 = false := by kernel_rfl
theorem kn_112 : knownT Tryd.prog 112 = true := by kernel_rfl
theorem it_112 : isIntT Tryd.prog 112 = false := by kernel_rfl
theorem pt_112 : isPtrT Tryd.prog 112 = true := by kernel_rfl
theorem zv_112 : zeroVs Tryd.prog 112 = some [V.sc (.pointer none)] := by kernel_rfl
theorem zt_112 : zeroT Tryd.prog 112 = some (.pointer none) := by kernel_rfl
theorem sz_113 : szT Tryd.prog 113 = some 3 := by kernel_rfl
theorem by_113 : byT Tryd.prog 113 = some 40 := by kernel_rfl
theorem ag_113 : aggT Tryd.prog 113 = true := by kernel_rfl
theorem kn_113 : knownT Tryd.prog 113 = true := by kernel_rfl
theorem it_113 : isIntT Tryd.prog 113 = false := by kernel_rfl
theorem pt_113 : isPtrT Tryd.prog 113 = false := by kernel_rfl
theorem pl_113 : placesT Tryd.prog 113 = some [(0, 1), (1, 1), (2, 1)] := by kernel_rfl
theorem sh_113 : shapeT Tryd.prog 113 = true := by kernel_rfl
theorem fo_113_0 : fieldOf Tryd.prog 113 0 = some (0, 22) := by kernel_rfl
theorem fo_113_1 : fieldOf Tryd.prog 113 1 = some (1, 3) := by kernel_rfl
theorem fo_113_2 : fieldOf Tryd.prog 113 2 = some (2, 26) := by kernel_rfl
theorem zv_113 : zeroVs Tryd.prog 113 = some [V.sc (.slice none 0 0), V.sc (.int .i64 0), V.sc (.int .i64 0)] := by kernel_rfl
theorem zt_113 : zeroT Tryd.prog 113 = some (.agg #[.slice none 0 0, .int .i64 0, .int .i64 0]) := by kernel_rfl
theorem sz_114 : szT Tryd.prog 114 = some 3 := by kernel_rfl
theorem by_114 : byT Tryd.prog 114 = some 40 := by kernel_rfl
theorem ag_114 : aggT Tryd.prog 114 = true := by kernel_rfl
theorem kn_114 : knownT Tryd.prog 114 = true := by kernel_rfl
theorem it_114 : isIntT Tryd.prog 114 = false := by kernel_rfl
theorem pt_114 : isPtrT Tryd.prog 114 = false := by kernel_rfl
theorem pl_114 : placesT Tryd.prog 114 = some [(0, 1), (1, 1), (2, 1)] := by kernel_rfl
theorem sh_114 : shapeT Tryd.prog 114 = true := by kernel_rfl
theorem fo_114_0 : fieldOf Tryd.prog 114 0 = some (0, 22) := by kernel_rfl
theorem fo_114_1 : fieldOf Tryd.prog 114 1 = some (1, 3) := by kernel_rfl
theorem fo_114_2 : fieldOf Tryd.prog 114 2 = some (2, 26) := by kernel_rfl
theorem zv_114 : zeroVs Tryd.prog 114 = some [V.sc (.slice none 0 0), V.sc (.int .i64 0), V.sc (.int .i64 0)] := by kernel_rfl
theorem zt_114 : zeroT Tryd.prog 114 = some (.agg #[.slice none 0 0, .int .i64 0, .int .i64 0]) := by kernel_rfl
theorem sz_116 : szT Tryd.prog 116 = some 1 := by kernel_rfl
theorem by_116 : byT Tryd.prog 116 = some 8 := by kernel_rfl
theorem ag_116 : aggT Tryd.prog 116 = false := by kernel_rfl
theorem kn_116 : knownT Tryd.prog 116 = true := by kernel_rfl
theorem it_116 : isIntT Tryd.prog 116 = false := by kernel_rfl
theorem pt_116 : isPtrT Tryd.prog 116 = false := by kernel_rfl
theorem zv_116 : zeroVs Tryd.prog 116 = some [V.sc (.nilFunc)] := by kernel_rfl
theorem zt_116 : zeroT Tryd.prog 116 = some (.nilFunc) := by kernel_rfl
theorem sz_117 : szT Tryd.prog 117 = some 1 := by kernel_rfl
theorem by_117 : byT Tryd.prog 117 = some 8 := by kernel_rfl
theorem ag_117 : aggT Tryd.prog 117 = false := by kernel_rfl
theorem kn_117 : knownT Tryd.prog 117 = true := by kernel_rfl
theorem it_117 : isIntT Tryd.prog 117 = false := by kernel_rfl
theorem pt_117 : isPtrT Tryd.prog 117 = false := by kernel_rfl
theorem zv_117 : zeroVs Tryd.prog 117 = some [V.sc (.nilFunc)] := by kernel_rfl
theorem zt_117 : zeroT Tryd.prog 117 = some (.nilFunc) := by kernel_rfl
theorem sz_118 : szT Tryd.prog 118 = some 9 := by kernel_rfl
theorem by_118 : byT Tryd.prog 118 = some 72 := by kernel_rfl
theorem ag_118 : aggT Tryd.prog 118 = true := by kernel_rfl
theorem kn_118 : knownT Tryd.prog 118 = true := by kernel_rfl
theorem it_118 : isIntT Tryd.prog 118 = false := by kernel_rfl
theorem pt_118 : isPtrT Tryd.prog 118 = false := by kernel_rfl
theorem el_118 : elemT Tryd.prog 118 = some 1 := by kernel_rfl
theorem pl_118 : placesT Tryd.prog 118 = none := by kernel_rfl
theorem sh_118 : shapeT Tryd.prog 118 = true := by kernel_rfl
theorem zv_118 : zeroVs Tryd.prog 118 = some [V.sc (.int .i64 0), V.sc (.int .i64 0), V.sc (.int .i64 0), V.sc (.int .i64 0), V.sc (.int .i64 0), V.sc (.int .i64 0), V.sc (.int .i64 0), V.sc (.int .i64 0), V.sc (.int .i64 0)] := by kernel_rfl
theorem zt_118 : zeroT Tryd.prog 118 = some (.agg #[.int .i64 0, .int .i64 0, .int .i64 0, .int .i64 0, .int .i64 0, .int .i64 0, .int .i64 0, .int .i64 0, .int .i64 0]) := by kernel_rfl
theorem sz_119 : szT Tryd.prog 119 = some 1 := by kernel_rfl
theorem by_119 : byT Tryd.prog 119 = some 8 := by kernel_rfl
theorem ag_119 : aggT Tryd.prog 119 = false := by kernel_rfl
theorem kn_119 : knownT Tryd.prog 119 = true := by kernel_rfl
theorem it_119 : isIntT Tryd.prog 119 = false := by kernel_rfl
theorem pt_119 : isPtrT Tryd.prog 119 = false := by kernel_rfl
theorem zv_119 : zeroVs Tryd.prog 119 = some [V.sc (.nilFunc)] := by kernel_rfl
theorem zt_119 : zeroT Tryd.prog 119 = some (.nilFunc) := by kernel_rfl
theorem sz_120 : szT Tryd.prog 120 = some 1 := by kernel_rfl
theorem by_120 : byT Tryd.prog 120 = some 8 := by kernel_rfl
theorem ag_120 : aggT Tryd.prog 120 = false := by kernel_rfl
theorem kn_120 : knownT Tryd.prog 120 = true := by kernel_rfl
theorem it_120 : isIntT Tryd.prog 120 = false := by kernel_rfl
theorem pt_120 : isPtrT Tryd.prog 120 = false := by kernel_rfl
theorem zv_120 : zeroVs Tryd.prog 120 = some [V.sc (.nilFunc)] := by kernel_rfl
theorem zt_120 : zeroT Tryd.prog 120 = some (.nilFunc) := by kernel_rfl
theorem sz_121 : szT Tryd.prog 121 = some 1 := by kernel_rfl
theorem by_121 : byT Tryd.prog 121 = some 8 := by kernel_rfl
theorem ag_121 : aggT Tryd.prog 121 = false := by kernel_rfl
theorem kn_121 : knownT Tryd.prog 121 = true := by kernel_rfl
theorem it_121 : isIntT Tryd.prog 121 = false := by kernel_rfl
theorem pt_121 : isPtrT Tryd.prog 121 = false := by kernel_rfl
theorem zv_121 : zeroVs Tryd.prog 121 = some [V.sc (.nilFunc)] := by kernel_rfl
theorem zt_121 : zeroT Tryd.prog 121 = some (.nilFunc) := by kernel_rfl
theorem sz_122 : szT Tryd.prog 122 = some 1 := by kernel_rfl
theorem by_122 : byT Tryd.prog 122 = some 8 := by kernel_rfl
theorem ag_122 : aggT Tryd.prog 122 = false := by kernel_rfl
theorem kn_122 : knownT Tryd.prog 122 = true := by kernel_rfl
theorem it_122 : isIntT Tryd.prog 122 = false := by kernel_rfl
theorem pt_122 : isPtrT Tryd.prog 122 = false := by kernel_rfl
theorem zv_122 : zeroVs Tryd.prog 122 = some [V.sc (.nilFunc)] := by kernel_rfl
theorem zt_122 : zeroT Tryd.prog 122 = some (.nilFunc) := by kernel_rfl
theorem sz_123 : szT Tryd.prog 123 = some 1 := by kernel_rfl
theorem by_123 : byT Tryd.prog 123 = some 8 := by kernel_rfl
theorem ag_123 : aggT Tryd.prog 123 = false := by kernel_rfl
theorem kn_123 : knownT Tryd.prog 123 = true := by kernel_rfl
theorem it_123 : isIntT Tryd.prog 123 = false := by kernel_rfl
theorem pt_123 : isPtrT Tryd.prog 123 = false := by kernel_rfl
theorem zv_123 : zeroVs Tryd.prog 123 = some [V.sc (.nilFunc)] := by kernel_rfl
theorem zt_123 : zeroT Tryd.prog 123 = some (.nilFunc) := by kernel_rfl
theorem sz_124 : szT Tryd.prog 124 = some 1 := by kernel_rfl
theorem by_124 : byT Tryd.prog 124 = some 8 := by kernel_rfl
theorem ag_124 : aggT Tryd.prog 124 = false := by kernel_rfl
theorem kn_124 : knownT Tryd.prog 124 = true := by kernel_rfl
theorem it_124 : isIntT Tryd.prog 124 = false := by kernel_rfl
theorem pt_124 : isPtrT Tryd.prog 124 = false := by kernel_rfl
theorem zv_124 : zeroVs Tryd.prog 124 = some [V.sc (.nilFunc)] := by kernel_rfl
theorem zt_124 : zeroT Tryd.prog 124 = some (.nilFunc) := by kernel_rfl
theorem sz_125 : szT Tryd.prog 125 = some 1 := by kernel_rfl
theorem by_125 : byT Tryd.prog 125 = some 8 := by kernel_rfl
theorem ag_125 : aggT Tryd.prog 125 = false := by kernel_rfl
theorem kn_125 : knownT Tryd.prog 125 = true := by kernel_rfl
theorem it_125 : isIntT Tryd.prog 125 = false := by kernel_rfl
theorem pt_125 : isPtrT Tryd.prog 125 = false := by kernel_rfl
theorem zv_125 : zeroVs Tryd.prog 125 = some [V.sc (.nilFunc)] := by kernel_rfl
theorem zt_125 : zeroT Tryd.prog 125 = some (.nilFunc) := by kernel_rfl
theorem sz_126 : szT Tryd.prog 126 = some 1 := by kernel_rfl
theorem by_126 : byT Tryd.prog 126 = some 8 := by kernel_rfl
theorem ag_126 : aggT Tryd.prog 126 = false := by kernel_rfl
theorem kn_126 : knownT Tryd.prog 126 = true := by kernel_rfl
theorem it_126 : isIntT Tryd.prog 126 = false := by kernel_rfl
theorem pt_126 : isPtrT Tryd.prog 126 = false := by kernel_rfl
theorem zv_126 : zeroVs Tryd.prog 126 = some [V.sc (.nilFunc)] := by kernel_rfl
theorem zt_126 : zeroT Tryd.prog 126 = some (.nilFunc) := by kernel_rfl
theorem sz_127 : szT Tryd.prog 127 = some 1 := by kernel_rfl
theorem by_127 : byT Tryd.prog 127 = some 8 := by kernel_rfl
theorem ag_127 : aggT Tryd.prog 127 = false := by kernel_rfl
theorem kn_127 : knownT Tryd.prog 127 = true := by kernel_rfl
theorem it_127 : isIntT Tryd.prog 127 = false := by kernel_rfl
theorem pt_127 : isPtrT Tryd.prog 127 = false := by kernel_rfl
theorem zv_127 : zeroVs Tryd.prog 127 = some [V.sc (.nilFunc)] := by kernel_rfl
theorem zt_127 : zeroT Tryd.prog 127 = some (.nilFunc) := by kernel_rfl
theorem sz_128 : szT Tryd.prog 128 = some 16 := by kernel_rfl
theorem by_128 : byT Tryd.prog 128 = some 64 := by kernel_rfl
theorem ag_128 : aggT Tryd.prog 128 = true := by kernel_rfl
theorem kn_128 : knownT Tryd.prog 128 = true := by kernel_rfl
theorem it_128 : isIntT Tryd.prog 128 = false := by kernel_rfl
theorem pt_128 : isPtrT Tryd.prog 128 = false := by kernel_rfl
theorem el_128 : elemT Tryd.prog 128 = some 1 := by kernel_rfl
theorem pl_128 : placesT Tryd.prog 128 = none := by kernel_rfl
theorem sh_128 : shapeT Tryd.prog 128 = true := by kernel_rfl
theorem zv_128 : zeroVs Tryd.prog 128 = some [V.sc (.int .u32 0), V.sc (.int .u32 0), V.sc (.int .u32 0), V.sc (.int .u32 0), V.sc (.int .u32 0), V.sc (.int .u32 0), V.sc (.int .u32 0), V.sc (.int .u32 0), V.sc (.int .u32 0), V.sc (.int .u32 0), V.sc (.int .u32 0), V.sc (.int .u32 0), V.sc (.int .u32 0), V.sc (.int .u32 0), V.sc (.int .u32 0), V.sc (.int .u32 0)] := by kernel_rfl
theorem zt_128 : zeroT Tryd.prog 128 = some (.agg #[.int .u32 0, .int .u32 0, .int .u32 0, .int .u32 0, .int .u32 0, .int .u32 0, .int .u32 0, .int .u32 0, .int .u32 0, .int .u32 0, .int .u32 0, .int .u32 0, .int .u32 0, .int .u32 0, .int .u32 0, .int .u32 0]) := by kernel_rfl
theorem sz_130 : szT Tryd.prog 130 = some 1 := by kernel_rfl
theorem by_130 : byT Tryd.prog 130 = some 8 := by kernel_rfl
theorem ag_130 : aggT Tryd.prog 130 = false := by kernel_rfl
theorem kn_130 : knownT Tryd.prog 130 = true := by kernel_rfl
theorem it_130 : isIntT Tryd.prog 130 = false := by kernel_rfl
theorem pt_130 : isPtrT Tryd.prog 130 = false := by kernel_rfl
theorem zv_130 : zeroVs Tryd.prog 130 = some [V.sc (.nilFunc)] := by kernel_rfl
theorem zt_130 : zeroT Tryd.prog 130 = some (.nilFunc) := by kernel_rfl
theorem sz_131 : szT Tryd.prog 131 = some 1 := by kernel_rfl
theorem by_131 : byT Tryd.prog 131 = some 8 := by kernel_rfl
theorem ag_131 : aggT Tryd.prog 131 = false := by kernel_rfl
theorem kn_131 : knownT Tryd.prog 131 = true := by kernel_rfl
theorem it_131 : isIntT Tryd.prog 131 = false := by kernel_rfl
theorem pt_131 : isPtrT Tryd.prog 131 = false := by kernel_rfl
theorem zv_131 : zeroVs Tryd.prog 131 = some [V.sc (.nilFunc)] := by kernel_rfl
theorem zt_131 : zeroT Tryd.prog 131 = some (.nilFunc) := by kernel_rfl
theorem sz_132 : szT Tryd.prog 132 = some 1 := by kernel_rfl
theorem by_132 : byT Tryd.prog 132 = some 8 := by kernel_rfl
theorem ag_132 : aggT Tryd.prog 132 = false := by kernel_rfl
theorem kn_132 : knownT Tryd.prog 132 = true := by kernel_rfl
theorem it_132 : isIntT Tryd.prog 132 = false := by kernel_rfl
theorem pt_132 : isPtrT Tryd.prog 132 = false := by kernel_rfl
theorem zv_132 : zeroVs Tryd.prog 132 = some [V.sc (.nilFunc)] := by kernel_rfl
theorem zt_132 : zeroT Tryd.prog 132 = some (.nilFunc) := by kernel_rfl
theorem sz_133 : szT Tryd.prog 133 = some 4 := by kernel_rfl
theorem by_133 : byT Tryd.prog 133 = some 40 := by kernel_rfl
theorem ag_133 : aggT Tryd.prog 133 = true := by kernel_rfl
theorem kn_133 : knownT Tryd.prog 133 = true := by kernel_rfl
theorem it_133 : isIntT Tryd.prog 133 = false := by kernel_rfl
theorem pt_133 : isPtrT Tryd.prog 133 = false := by kernel_rfl
theorem pl_133 : placesT Tryd.prog 133 = some [(0, 1), (1, 1), (2, 1), (3, 1)] := by kernel_rfl
theorem sh_133 : shapeT Tryd.prog 133 = true := by kernel_rfl
theorem fo_133_0 : fieldOf Tryd.prog 133 0 = some (0, 17) := by kernel_rfl
theorem fo_133_1 : fieldOf Tryd.prog 133 1 = some (1, 17) := by kernel_rfl
theorem fo_133_2 : fieldOf Tryd.prog 133 2 = some (2, 17) := by kernel_rfl
theorem fo_133_3 : fieldOf Tryd.prog 133 3 = some (3, 9) := by kernel_rfl
theorem zv_133 : zeroVs Tryd.prog 133 = some [V.sc (.pointer none), V.sc (.pointer none), V.sc (.pointer none), V.sc (.string ⟨#[]⟩)] := by kernel_rfl
theorem zt_133 : zeroT Tryd.prog 133 = some (.agg #[.pointer none, .pointer none, .pointer none, .string ⟨#[]⟩]) := by kernel_rfl
theorem sz_134 : szT Tryd.prog 134 = some 4 := by kernel_rfl
theorem by_134 : byT Tryd.prog 134 = some 40 := by kernel_rfl
theorem ag_134 : aggT Tryd.prog 134 = true := by kernel_rfl
theorem kn_134 : knownT Tryd.prog 134 = true := by kernel_rfl
theorem it_134 : isIntT Tryd.prog 134 = false := by kernel_rfl
theorem pt_134 : isPtrT Tryd.prog 134 = false := by kernel_rfl
theorem pl_134 : placesT Tryd.prog 134 = some [(0, 1), (1, 1), (2, 1), (3, 1)] := by kernel_rfl
theorem sh_134 : shapeT Tryd.prog 134 = true := by kernel_rfl
theorem fo_134_0 : fieldOf Tryd.prog 134 0 = some (0, 17) := by kernel_rfl
theorem fo_134_1 : fieldOf Tryd.prog 134 1 = some (1, 17) := by kernel_rfl
theorem fo_134_2 : fieldOf Tryd.prog 134 2 = some (2, 17) := by kernel_rfl
theorem fo_134_3 : fieldOf Tryd.prog 134 3 = some (3, 9) := by kernel_rfl
theorem zv_134 : zeroVs Tryd.prog 134 = some [V.sc (.pointer none), V.sc (.pointer none), V.sc (.pointer none), V.sc (.string ⟨#[]⟩)] := by kernel_rfl
theorem zt_134 : zeroT Tryd.prog 134 = some (.agg #[.pointer none, .pointer none, .pointer none, .string ⟨#[]⟩]) := by kernel_rfl
theorem sz_135 : szT Tryd.prog 135 = some 0 := by kernel_rfl
theorem by_135 : byT Tryd.prog 135 = some 0 := by kernel_rfl
theorem ag_135 : aggT Tryd.prog 135 = true := by kernel_rfl
theorem kn_135 : knownT Tryd.prog 135 = true := by kernel_rfl
theorem it_135 : isIntT Tryd.prog 135 = false := by kernel_rfl
theorem pt_135 : isPtrT Tryd.prog 135 = false := by kernel_rfl
theorem el_135 : elemT Tryd.prog 135 = some 1 := by kernel_rfl
theorem pl_135 : placesT Tryd.prog 135 = none := by kernel_rfl
theorem sh_135 : shapeT Tryd.prog 135 = true := by kernel_rfl
theorem zv_135 : zeroVs Tryd.prog 135 = some [] := by kernel_rfl
theorem zt_135 : zeroT Tryd.prog 135 = some (.agg #[]) := by kernel_rfl
theorem sz_136 : szT Tryd.prog 136 = some 0 := by kernel_rfl
theorem by_136 : byT Tryd.prog 136 = some 0 := by kernel_rfl
theorem ag_136 : aggT Tryd.prog 136 = true := by kernel_rfl
theorem kn_136 : knownT Tryd.prog 136 = true := by kernel_rfl
theorem it_136 : isIntT Tryd.prog 136 = false := by kernel_rfl
theorem pt_136 : isPtrT Tryd.prog 136 = false := by kernel_rfl
theorem pl_136 : placesT Tryd.prog 136 = some [(0, 0)] := by kernel_rfl
theorem sh_136 : shapeT Tryd.prog 136 = true := by kernel_rfl
theorem zv_136 : zeroVs Tryd.prog 136 = some [] := by kernel_rfl
theorem zt_136 : zeroT Tryd.prog 136 = some (.agg #[]) := by kernel_rfl
theorem sz_137 : szT Tryd.prog 137 = some 0 := by kernel_rfl
theorem by_137 : byT Tryd.prog 137 = some 0 := by kernel_rfl
theorem ag_137 : aggT Tryd.prog 137 = true := by kernel_rfl
theorem kn_137 : knownT Tryd.prog 137 = true := by kernel_rfl
theorem it_137 : isIntT Tryd.prog 137 = false := by kernel_rfl
theorem pt_137 : isPtrT Tryd.prog 137 = false := by kernel_rfl
theorem pl_137 : placesT Tryd.prog 137 = some [(0, 0)] := by kernel_rfl
theorem sh_137 : shapeT Tryd.prog 137 = true := by kernel_rfl
theorem zv_137 : zeroVs Tryd.prog 137 = some [] := by kernel_rfl
theorem zt_137 : zeroT Tryd.prog 137 = some (.agg #[]) := by kernel_rfl
theorem sz_138 : szT Tryd.prog 138 = some 1 := by kernel_rfl
theorem by_138 : byT Tryd.prog 138 = some 8 := by kernel_rfl
theorem ag_138 : aggT Tryd.prog 138 = false := by kernel_rfl
theorem kn_138 : knownT Tryd.prog 138 = true := by kernel_rfl
theorem it_138 : isIntT Tryd.prog 138 = false := by kernel_rfl
theorem pt_138 : isPtrT Tryd.prog 138 = false := by kernel_rfl
theorem zv_138 : zeroVs Tryd.prog 138 = some [V.sc (.nilFunc)] := by kernel_rfl
theorem zt_138 : zeroT Tryd.prog 138 = some (.nilFunc) := by kernel_rfl
theorem sz_139 : szT Tryd.prog 139 = some 1 := by kernel_rfl
theorem by_139 : byT Tryd.prog 139 = some 1 := by kernel_rfl
theorem ag_139 : aggT Tryd.prog 139 = false := by kernel_rfl
theorem kn_139 : knownT Tryd.prog 139 = true := by kernel_rfl
theorem it_139 : isIntT Tryd.prog 139 = true := by kernel_rfl
theorem pt_139 : isPtrT Tryd.prog 139 = false := by kernel_rfl
theorem zv_139 : zeroVs Tryd.prog 139 = some [V.sc (.int .u8 0)] := by kernel_rfl
theorem zt_139 : zeroT Tryd.prog 139 = some (.int .u8 0) := by kernel_rfl
theorem sz_140 : szT Tryd.prog 140 = some 1 := by kernel_rfl
theorem by_140 : byT Tryd.prog 140 = some 1 := by kernel_rfl
theorem ag_140 : aggT Tryd.prog 140 = false := by kernel_rfl
theorem kn_140 : knownT Tryd.prog 140 = true := by kernel_rfl
theorem it_140 : isIntT Tryd.prog 140 = true := by kernel_rfl
theorem pt_140 : isPtrT Tryd.prog 140 = false := by kernel_rfl
theorem zv_140 : zeroVs Tryd.prog 140 = some [V.sc (.int .u8 0)] := by kernel_rfl
theorem zt_140 : zeroT Tryd.prog 140 = some (.int .u8 0) := by kernel_rfl
theorem sz_141 : szT Tryd.prog 141 = some 1 := by kernel_rfl
theorem by_141 : byT Tryd.prog 141 = some 8 := by kernel_rfl
theorem ag_141 : aggT Tryd.prog 141 = false := by kernel_rfl
theorem kn_141 : knownT Tryd.prog 141 = true := by kernel_rfl
theorem it_141 : isIntT Tryd.prog 141 = false := by kernel_rfl
theorem pt_141 : isPtrT Tryd.prog 141 = false := by kernel_rfl
theorem zv_141 : zeroVs Tryd.prog 141 = some [V.sc (.nilFunc)] := by kernel_rfl
theorem zt_141 : zeroT Tryd.prog 141 = some (.nilFunc) := by kernel_rfl
theorem sz_142 : szT Tryd.prog 142 = some 1 := by kernel_rfl
theorem by_142 : byT Tryd.prog 142 = some 8 := by kernel_rfl
theorem ag_142 : aggT Tryd.prog 142 = false := by kernel_rfl
theorem kn_142 : knownT Tryd.prog 142 = true := by kernel_rfl
theorem it_142 : isIntT Tryd.prog 142 = false := by kernel_rfl
theorem pt_142 : isPtrT Tryd.prog 142 = true := by kernel_rfl
theorem zv_142 : zeroVs Tryd.prog 142 = some [V.sc (.pointer none)] := by kernel_rfl
theorem zt_142 : zeroT Tryd.prog 142 = some (.pointer none) := by kernel_rfl
theorem sz_143 : szT Tryd.prog 143 = some 1 := by kernel_rfl
theorem by_143 : byT Tryd.prog 143 = some 4 := by kernel_rfl
theorem ag_143 : aggT Tryd.prog 143 = false := by kernel_rfl
theorem kn_143 : knownT Tryd.prog 143 = true := by kernel_rfl
theorem it_143 : isIntT Tryd.prog 143 = true := by kernel_rfl
theorem pt_143 : isPtrT Tryd.prog 143 = false := by kernel_rfl
theorem zv_143 : zeroVs Tryd.prog 143 = some [V.sc (.int .i32 0)] := by kernel_rfl
theorem zt_143 : zeroT Tryd.prog 143 = some (.int .i32 0) := by kernel_rfl
theorem sz_144 : szT Tryd.prog 144 = some 1 := by kernel_rfl
theorem by_144 : byT Tryd.prog 144 = some 4 := by kernel_rfl
theorem ag_144 : aggT Tryd.prog 144 = false := by kernel_rfl
theorem kn_144 : knownT Tryd.prog 144 = true := by kernel_rfl
theorem it_144 : isIntT Tryd.prog 144 = true := by kernel_rfl
theorem pt_144 : isPtrT Tryd.prog 144 = false := by kernel_rfl
theorem zv_144 : zeroVs Tryd.prog 144 = some [V.sc (.int .i32 0)] := by kernel_rfl
theorem zt_144 : zeroT Tryd.prog 144 = some (.int .i32 0) := by kernel_rfl
theorem sz_145 : szT Tryd.prog 145 = some 11 := by kernel_rfl
theorem by_145 : byT Tryd.prog 145 = some 48 := by kernel_rfl
theorem ag_145 : aggT Tryd.prog 145 = true := by kernel_rfl
theorem kn_145 : knownT Tryd.prog 145 = true := by kernel_rfl
theorem it_145 : isIntT Tryd.prog 145 = false := by kernel_rfl
theorem pt_145 : isPtrT Tryd.prog 145 = false := by kernel_rfl
theorem pl_145 : placesT Tryd.prog 145 = some [(0, 1), (1, 1), (2, 1), (3, 1), (4, 1), (5, 1), (6, 1), (7, 1), (8, 1), (9, 1), (10, 1)] := by kernel_rfl
theorem sh_145 : shapeT Tryd.prog 145 = true := by kernel_rfl
theorem fo_145_0 : fieldOf Tryd.prog 145 0 = some (0, 12) := by kernel_rfl
theorem fo_145_1 : fieldOf Tryd.prog 145 1 = some (1, 12) := by kernel_rfl
theorem fo_145_2 : fieldOf Tryd.prog 145 2 = some (2, 42) := by kernel_rfl
theorem fo_145_3 : fieldOf Tryd.prog 145 3 = some (3, 139) := by kernel_rfl
theorem fo_145_4 : fieldOf Tryd.prog 145 4 = some (4, 5) := by kernel_rfl
theorem fo_145_5 : fieldOf Tryd.prog 145 5 = some (5, 5) := by kernel_rfl
theorem fo_145_6 : fieldOf Tryd.prog 145 6 = some (6, 140) := by kernel_rfl
theorem fo_145_7 : fieldOf Tryd.prog 145 7 = some (7, 141) := by kernel_rfl
theorem fo_145_8 : fieldOf Tryd.prog 145 8 = some (8, 142) := by kernel_rfl
theorem fo_145_9 : fieldOf Tryd.prog 145 9 = some (9, 143) := by kernel_rfl
theorem fo_145_10 : fieldOf Tryd.prog 145 10 = some (10, 144) := by kernel_rfl
theorem zv_145 : zeroVs Tryd.prog 145 = some [V.sc (.int .u64 0), V.sc (.int .u64 0), V.sc (.int .u32 0), V.sc (.int .u8 0), V.sc (.int .u8 0), V.sc (.int .u8 0), V.sc (.int .u8 0), V.sc (.nilFunc), V.sc (.pointer none), V.sc (.int .i32 0), V.sc (.int .i32 0)] := by kernel_rfl
theorem zt_145 : zeroT Tryd.prog 145 = some (.agg #[.int .u64 0, .int .u64 0, .int .u32 0, .int .u8 0, .int .u8 0, .int .u8 0, .int .u8 0, .nilFunc, .pointer none, .int .i32 0, .int .i32 0]) := by kernel_rfl
theorem sz_146 : szT Tryd.prog 146 = some 11 := by kernel_rfl
theorem by_146 : byT Tryd.prog 146 = some 48 := by kernel_rfl
theorem ag_146 : aggT Tryd.prog 146 = true := by kernel_rfl
theorem kn_146 : knownT Tryd.prog 146 = true := by kernel_rfl
theorem it_146 : isIntT Tryd.prog 146 = false := by kernel_rfl
theorem pt_146 : isPtrT Tryd.prog 146 = false := by kernel_rfl
theorem pl_146 : placesT Tryd.prog 146 = some [(0, 1), (1, 1), (2, 1), (3, 1), (4, 1), (5, 1), (6, 1), (7, 1), (8, 1), (9, 1), (10, 1)] := by kernel_rfl
theorem sh_146 : shapeT Tryd.prog 146 = true := by kernel_rfl
theorem fo_146_0 : fieldOf Tryd.prog 146 0 = some (0, 12) := by kernel_rfl
theorem fo_146_1 : fieldOf Tryd.prog 146 1 = some (1, 12) := by kernel_rfl
theorem fo_146_2 : fieldOf Tryd.prog 146 2 = some (2, 42) := by kernel_rfl
theorem fo_146_3 : fieldOf Tryd.prog 146 3 = some (3, 139) := by kernel_rfl
theorem fo_146_4 : fieldOf Tryd.prog 146 4 = some (4, 5) := by kernel_rfl
theorem fo_146_5 : fieldOf Tryd.prog 146 5 = some (5, 5) := by kernel_rfl
theorem fo_146_6 : fieldOf Tryd.prog 146 6 = some (6, 140) := by kernel_rfl
theorem fo_146_7 : fieldOf Tryd.prog 146 7 = some (7, 141) := by kernel_rfl
theorem fo_146_8 : fieldOf Tryd.prog 146 8 = some (8, 142) := by kernel_rfl
theorem fo_146_9 : fieldOf Tryd.prog 146 9 = some (9, 143) := by kernel_rfl
theorem fo_146_10 : fieldOf Tryd.prog 146 10 = some (10, 144) := by kernel_rfl
theorem zv_146 : zeroVs Tryd.prog 146 = some [V.sc (.int .u64 0), V.sc (.int .u64 0), V.sc (.int .u32 0), V.sc (.int .u8 0), V.sc (.int .u8 0), V.sc (.int .u8 0), V.sc (.int .u8 0), V.sc (.nilFunc), V.sc (.pointer none), V.sc (.int .i32 0), V.sc (.int .i32 0)] := by kernel_rfl
theorem zt_146 : zeroT Tryd.prog 146 = some (.agg #[.int .u64 0, .int .u64 0, .int .u32 0, .int .u8 0, .int .u8 0, .int .u8 0, .int .u8 0, .nilFunc, .pointer none, .int .i32 0, .int .i32 0]) := by kernel_rfl
theorem sz_147 : szT Tryd.prog 147 = some 1 := by kernel_rfl
theorem by_147 : byT Tryd.prog 147 = some 8 := by kernel_rfl
theorem ag_147 : aggT Tryd.prog 147 = false := by kernel_rfl
theorem kn_147 : knownT Tryd.prog 147 = true := by kernel_rfl
theorem it_147 : isIntT Tryd.prog 147 = false := by kernel_rfl
theorem pt_147 : isPtrT Tryd.prog 147 = false := by kernel_rfl
theorem zv_147 : zeroVs Tryd.prog 147 = some [V.sc (.pointer none)] := by kernel_rfl
theorem zt_147 : zeroT Tryd.prog 147 = some (.pointer none) := by kernel_rfl
attribute [go_sem] sz_1 by_1 ag_1 kn_1 it_1 pt_1 zv_1 zt_1 sz_2 by_2 ag_2 kn_2
  it_2 pt_2 zv_2 zt_2 sz_3 by_3 ag_3 kn_3 it_3 pt_3 zv_3 zt_3
  sz_4 by_4 ag_4 kn_4 it_4 pt_4 zv_4 zt_4 sz_5 by_5 ag_5 kn_5
  it_5 pt_5 zv_5 zt_5 sz_6 by_6 ag_6 kn_6 it_6 pt_6 zv_6 zt_6
  sz_7 by_7 ag_7 kn_7 it_7 pt_7 pl_7 sh_7 fo_7_0 fo_7_1 fo_7_2 fo_7_3
  zv_7 zt_7 sz_8 by_8 ag_8 kn_8 it_8 pt_8 pl_8 sh_8 fo_8_0 fo_8_1
  fo_8_2 fo_8_3 zv_8 zt_8 sz_9 by_9 ag_9 kn_9 it_9 pt_9 zv_9 zt_9
  sz_10 by_10 ag_10 kn_10 it_10 pt_10 zv_10 zt_10 sz_11 by_11 ag_11 kn_11
  it_11 pt_11 zv_11 zt_11 sz_12 by_12 ag_12 kn_12 it_12 pt_12 zv_12 zt_12
  sz_13 by_13 ag_13 kn_13 it_13 pt_13 pl_13 sh_13 fo_13_0 fo_13_1 zv_13 zt_13
  sz_14 by_14 ag_14 kn_14 it_14 pt_14 pl_14 sh_14 fo_14_0 fo_14_1 zv_14 zt_14
  sz_15 by_15 ag_15 kn_15 it_15 pt_15 zv_15 zt_15 sz_16 by_16 ag_16 kn_16
  it_16 pt_16 zv_16 zt_16 sz_17 by_17 ag_17 kn_17 it_17 pt_17 zv_17 zt_17
  sz_18 by_18 ag_18 kn_18 it_18 pt_18 pl_18 sh_18 fo_18_0 zv_18 zt_18 sz_19
  by_19 ag_19 kn_19 it_19 pt_19 pl_19 sh_19 fo_19_0 zv_19 zt_19 sz_20 by_20
  ag_20 kn_20 it_20 pt_20 zv_20 zt_20 sz_21 by_21 ag_21 kn_21 it_21 pt_21
  zv_21 zt_21 sz_22 by_22 ag_22 kn_22 it_22 pt_22 zv_22 zt_22 sz_23 by_23
  ag_23 kn_23 it_23 pt_23 zv_23 zt_23 sz_24 by_24 ag_24 kn_24 it_24 pt_24
  zv_24 zt_24 sz_25 by_25 ag_25 kn_25 it_25 pt_25 zv_25 zt_25 sz_26 by_26
  ag_26 kn_26 it_26 pt_26 zv_26 zt_26 sz_28 by_28 ag_28 kn_28 it_28 pt_28
  zv_28 zt_28 sz_30 by_30 ag_30 kn_30 it_30 pt_30 zv_30 zt_30 sz_32 by_32
  ag_32 kn_32 it_32 pt_32 zv_32 zt_32 sz_33 by_33 ag_33 kn_33 it_33 pt_33
  zv_33 zt_33 sz_34 by_34 ag_34 kn_34 it_34 pt_34 zv_34 zt_34 sz_35 by_35
  ag_35 kn_35 it_35 pt_35 zv_35 zt_35 sz_36 by_36 ag_36 kn_36 it_36 pt_36
  zv_36 zt_36 sz_37 by_37 ag_37 kn_37 it_37 pt_37 zv_37 zt_37 sz_38 by_38
  ag_38 kn_38 it_38 pt_38 zv_38 zt_38 sz_39 by_39 ag_39 kn_39 it_39 pt_39
  zv_39 zt_39 sz_40 by_40 ag_40 kn_40 it_40 pt_40 zv_40 zt_40 sz_41 by_41
  ag_41 kn_41 it_41 pt_41 zv_41 zt_41 sz_42 by_42 ag_42 kn_42 it_42 pt_42
  zv_42 zt_42 sz_43 by_43 ag_43 kn_43 it_43 pt_43 zv_43 zt_43 sz_44 by_44
  ag_44 kn_44 it_44 pt_44 zv_44 zt_44 sz_45 by_45 ag_45 kn_45 it_45 pt_45
  zv_45 zt_45 sz_46 by_46 ag_46 kn_46 it_46 pt_46 zv_46 zt_46 sz_47 by_47
  ag_47 kn_47 it_47 pt_47 zv_47 zt_47 sz_48 by_48 ag_48 kn_48 it_48 pt_48
  zv_48 zt_48 sz_49 by_49 ag_49 kn_49 it_49 pt_49 zv_49 zt_49 sz_50 by_50
  ag_50 kn_50 it_50 pt_50 zv_50 zt_50 sz_52 by_52 ag_52 kn_52 it_52 pt_52
  zv_52 zt_52 sz_54 by_54 ag_54 kn_54 it_54 pt_54 zv_54 zt_54 sz_55 by_55
  ag_55 kn_55 it_55 pt_55 el_55 pl_55 sh_55 zv_55 zt_55 sz_56 by_56 ag_56
  kn_56 it_56 pt_56 el_56 pl_56 sh_56 zv_56 zt_56 sz_57 by_57 ag_57 kn_57
  it_57 pt_57 zv_57 zt_57 sz_58 by_58 ag_58 kn_58 it_58 pt_58 zv_58 zt_58
  sz_59 by_59 ag_59 kn_59 it_59 pt_59 pl_59 sh_59 fo_59_0 fo_59_1 fo_59_2 fo_59_3
  fo_59_4 fo_59_5 fo_59_6 fo_59_7 zv_59 zt_59 sz_60 by_60 ag_60 kn_60 it_60 pt_60
  pl_60 sh_60 fo_60_0 fo_60_1 fo_60_2 fo_60_3 fo_60_4 fo_60_5 fo_60_6 fo_60_7 zv_60 zt_60
  sz_61 by_61 ag_61 kn_61 it_61 pt_61 zv_61 zt_61 sz_62 by_62 ag_62 kn_62
  it_62 pt_62 zv_62 zt_62 sz_63 by_63 ag_63 kn_63 it_63 pt_63 pl_63 sh_63
  fo_63_0 fo_63_1 fo_63_2 fo_63_3 fo_63_4 fo_63_5 fo_63_6 fo_63_7 zv_63 zt_63 sz_64 by_64
  ag_64 kn_64 it_64 pt_64 zv_64 zt_64 sz_65 by_65 ag_65 kn_65 it_65 pt_65
  zv_65 zt_65 sz_66 by_66 ag_66 kn_66 it_66 pt_66 zv_66 zt_66 sz_67 by_67
  ag_67 kn_67 it_67 pt_67 zv_67 zt_67 sz_68 by_68 ag_68 kn_68 it_68 pt_68
  zv_68 zt_68 sz_69 by_69 ag_69 kn_69 it_69 pt_69 el_69 pl_69 sh_69 zv_69
  zt_69 sz_70 by_70 ag_70 kn_70 it_70 pt_70 zv_70 zt_70 sz_71 by_71 ag_71
  kn_71 it_71 pt_71 zv_71 zt_71 sz_73 by_73 ag_73 kn_73 it_73 pt_73 zv_73
  zt_73 sz_74 by_74 ag_74 kn_74 it_74 pt_74 zv_74 zt_74 sz_76 by_76 ag_76
  kn_76 it_76 pt_76 zv_76 zt_76 sz_77 by_77 ag_77 kn_77 it_77 pt_77 pl_77
  sh_77 fo_77_0 fo_77_1 fo_77_2 zv_77 zt_77 sz_78 by_78 ag_78 kn_78 it_78 pt_78
  pl_78 sh_78 fo_78_0 fo_78_1 fo_78_2 zv_78 zt_78 sz_79 by_79 ag_79 kn_79 it_79
  pt_79 zv_79 zt_79 sz_80 by_80 ag_80 kn_80 it_80 pt_80 pl_80 sh_80 fo_80_0
  fo_80_1 fo_80_2 fo_80_3 zv_80 zt_80 sz_81 by_81 ag_81 kn_81 it_81 pt_81 pl_81
  sh_81 fo_81_0 fo_81_1 fo_81_2 fo_81_3 zv_81 zt_81 sz_82 by_82 ag_82 kn_82 it_82
  pt_82 zv_82 zt_82 sz_83 by_83 ag_83 kn_83 it_83 pt_83 zv_83 zt_83 sz_85
  by_85 ag_85 kn_85 it_85 pt_85 zv_85 zt_85 sz_87 by_87 ag_87 kn_87 it_87
  pt_87 zv_87 zt_87 sz_88 by_88 ag_88 kn_88 it_88 pt_88 zv_88 zt_88 sz_89
  by_89 ag_89 kn_89 it_89 pt_89 zv_89 zt_89 sz_90 by_90 ag_90 kn_90 it_90
  pt_90 zv_90 zt_90 sz_91 by_91 ag_91 kn_91 it_91 pt_91 zv_91 zt_91 sz_92
  by_92 ag_92 kn_92 it_92 pt_92 zv_92 zt_92 sz_93 by_93 ag_93 kn_93 it_93
  pt_93 zv_93 zt_93 sz_94 by_94 ag_94 kn_94 it_94 pt_94 zv_94 zt_94 sz_95
  by_95 ag_95 kn_95 it_95 pt_95 zv_95 zt_95 sz_96 by_96 ag_96 kn_96 it_96
  pt_96 zv_96 zt_96 sz_97 by_97 ag_97 kn_97 it_97 pt_97 zv_97 zt_97 sz_98
  by_98 ag_98 kn_98 it_98 pt_98 zv_98 zt_98 sz_99 by_99 ag_99 kn_99 it_99
  pt_99 zv_99 zt_99 sz_100 by_100 ag_100 kn_100 it_100 pt_100 zv_100 zt_100 sz_101
  by_101 ag_101 kn_101 it_101 pt_101 zv_101 zt_101 sz_102 by_102 ag_102 kn_102 it_102
  pt_102 zv_102 zt_102 sz_103 by_103 ag_103 kn_103 it_103 pt_103 zv_103 zt_103 sz_104
  by_104 ag_104 kn_104 it_104 pt_104 zv_104 zt_104 sz_105 by_105 ag_105 kn_105 it_105
  pt_105 zv_105 zt_105 sz_106 by_106 ag_106 kn_106 it_106 pt_106 pl_106 sh_106 fo_106_0
  fo_106_1 zv_106 zt_106 sz_107 by_107 ag_107 kn_107 it_107 pt_107 pl_107 sh_107 fo_107_0
  fo_107_1 zv_107 zt_107 sz_108 by_108 ag_108 kn_108 it_108 pt_108 zv_108 zt_108 sz_109
  by_109 ag_109 kn_109 it_109 pt_109 zv_109 zt_109 sz_110 by_110 ag_110 kn_110 it_110
  pt_110 zv_110 zt_110 sz_111 by_111 ag_111 kn_111 it_111 pt_111 zv_111 zt_111 sz_112
  by_112 ag_112 kn_112 it_112 pt_112 zv_112 zt_112 sz_113 by_113 ag_113 kn_113 it_113
  pt_113 pl_113 sh_113 fo_113_0 fo_113_1 fo_113_2 zv_113 zt_113 sz_114 by_114 ag_114 kn_114
  it_114 pt_114 pl_114 sh_114 fo_114_0 fo_114_1 fo_114_2 zv_114 zt_114 sz_116 by_116 ag_116
  kn_116 it_116 pt_116 zv_116 zt_116 sz_117 by_117 ag_117 kn_117 it_117 pt_117 zv_117
  zt_117 sz_118 by_118 ag_118 kn_118 it_118 pt_118 el_118 pl_118 sh_118 zv_118 zt_118
  sz_119 by_119 ag_119 kn_119 it_119 pt_119 zv_119 zt_119 sz_120 by_120 ag_120 kn_120
  it_120 pt_120 zv_120 zt_120 sz_121 by_121 ag_121 kn_121 it_121 pt_121 zv_121 zt_121
  sz_122 by_122 ag_122 kn_122 it_122 pt_122 zv_122 zt_122 sz_123 by_123 ag_123 kn_123
  it_123 pt_123 zv_123 zt_123 sz_124 by_124 ag_124 kn_124 it_124 pt_124 zv_124 zt_124
  sz_125 by_125 ag_125 kn_125 it_125 pt_125 zv_125 zt_125 sz_126 by_126 ag_126 kn_126
  it_126 pt_126 zv_126 zt_126 sz_127 by_127 ag_127 kn_127 it_127 pt_127 zv_127 zt_127
  sz_128 by_128 ag_128 kn_128 it_128 pt_128 el_128 pl_128 sh_128 zv_128 zt_128 sz_130
  by_130 ag_130 kn_130 it_130 pt_130 zv_130 zt_130 sz_131 by_131 ag_131 kn_131 it_131
  pt_131 zv_131 zt_131 sz_132 by_132 ag_132 kn_132 it_132 pt_132 zv_132 zt_132 sz_133
  by_133 ag_133 kn_133 it_133 pt_133 pl_133 sh_133 fo_133_0 fo_133_1 fo_133_2 fo_133_3 zv_133
  zt_133 sz_134 by_134 ag_134 kn_134 it_134 pt_134 pl_134 sh_134 fo_134_0 fo_134_1 fo_134_2
  fo_134_3 zv_134 zt_134 sz_135 by_135 ag_135 kn_135 it_135 pt_135 el_135 pl_135 sh_135
  zv_135 zt_135 sz_136 by_136 ag_136 kn_136 it_136 pt_136 pl_136 sh_136 zv_136 zt_136
  sz_137 by_137 ag_137 kn_137 it_137 pt_137 pl_137 sh_137 zv_137 zt_137 sz_138 by_138
  ag_138 kn_138 it_138 pt_138 zv_138 zt_138 sz_139 by_139 ag_139 kn_139 it_139 pt_139
  zv_139 zt_139 sz_140 by_140 ag_140 kn_140 it_140 pt_140 zv_140 zt_140 sz_141 by_141
  ag_141 kn_141 it_141 pt_141 zv_141 zt_141 sz_142 by_142 ag_142 kn_142 it_142 pt_142
  zv_142 zt_142 sz_143 by_143 ag_143 kn_143 it_143 pt_143 zv_143 zt_143 sz_144 by_144
  ag_144 kn_144 it_144 pt_144 zv_144 zt_144 sz_145 by_145 ag_145 kn_145 it_145 pt_145
  pl_145 sh_145 fo_145_0 fo_145_1 fo_145_2 fo_145_3 fo_145_4 fo_145_5 fo_145_6 fo_145_7 fo_145_8 fo_145_9
  fo_145_10 zv_145 zt_145 sz_146 by_146 ag_146 kn_146 it_146 pt_146 pl_146 sh_146 fo_146_0
  fo_146_1 fo_146_2 fo_146_3 fo_146_4 fo_146_5 fo_146_6 fo_146_7 fo_146_8 fo_146_9 fo_146_10 zv_146 zt_146
  sz_147 by_147 ag_147 kn_147 it_147 pt_147 zv_147 zt_147 Tryd.underlying0 Tryd.underlying1 Tryd.underlying2 Tryd.underlying3
  Tryd.underlying4 Tryd.underlying5 Tryd.underlying6 Tryd.underlying7 Tryd.underlying8 Tryd.underlying9 Tryd.underlying10 Tryd.underlying11 Tryd.underlying12 Tryd.underlying13 Tryd.underlying14 Tryd.underlying15
  Tryd.underlying16 Tryd.underlying17 Tryd.underlying18 Tryd.underlying19 Tryd.underlying20 Tryd.underlying21 Tryd.underlying22 Tryd.underlying23 Tryd.underlying24 Tryd.underlying25 Tryd.underlying26 Tryd.underlying27
  Tryd.underlying28 Tryd.underlying29 Tryd.underlying30 Tryd.underlying31 Tryd.underlying32 Tryd.underlying33 Tryd.underlying34 Tryd.underlying35 Tryd.underlying36 Tryd.underlying37 Tryd.underlying38 Tryd.underlying39
  Tryd.underlying40 Tryd.underlying41 Tryd.underlying42 Tryd.underlying43 Tryd.underlying44 Tryd.underlying45 Tryd.underlying46 Tryd.underlying47 Tryd.underlying48 Tryd.underlying49 Tryd.underlying50 Tryd.underlying51
  Tryd.underlying52 Tryd.underlying53 Tryd.underlying54 Tryd.underlying55 Tryd.underlying56 Tryd.underlying57 Tryd.underlying58 Tryd.underlying59 Tryd.underlying60 Tryd.underlying61 Tryd.underlying62 Tryd.underlying63
  Tryd.underlying64 Tryd.underlying65 Tryd.underlying66 Tryd.underlying67 Tryd.underlying68 Tryd.underlying69 Tryd.underlying70 Tryd.underlying71 Tryd.underlying72 Tryd.underlying73 Tryd.underlying74 Tryd.underlying75
  Tryd.underlying76 Tryd.underlying77 Tryd.underlying78 Tryd.underlying79 Tryd.underlying80 Tryd.underlying81 Tryd.underlying82 Tryd.underlying83 Tryd.underlying84 Tryd.underlying85 Tryd.underlying86 Tryd.underlying87
  Tryd.underlying88 Tryd.underlying89 Tryd.underlying90 Tryd.underlying91 Tryd.underlying92 Tryd.underlying93 Tryd.underlying94 Tryd.underlying95 Tryd.underlying96 Tryd.underlying97 Tryd.underlying98 Tryd.underlying99
  Tryd.underlying100 Tryd.underlying101 Tryd.underlying102 Tryd.underlying103 Tryd.underlying104 Tryd.underlying105 Tryd.underlying106 Tryd.underlying107 Tryd.underlying108 Tryd.underlying109 Tryd.underlying110 Tryd.underlying111
  Tryd.underlying112 Tryd.underlying113 Tryd.underlying114 Tryd.underlying115 Tryd.underlying116 Tryd.underlying117 Tryd.underlying118 Tryd.underlying119 Tryd.underlying120 Tryd.underlying121 Tryd.underlying122 Tryd.underlying123
  Tryd.underlying124 Tryd.underlying125 Tryd.underlying126 Tryd.underlying127 Tryd.underlying128 Tryd.underlying129 Tryd.underlying130 Tryd.underlying131 Tryd.underlying132 Tryd.underlying133 Tryd.underlying134 Tryd.underlying135
  Tryd.underlying136 Tryd.underlying137 Tryd.underlying138 Tryd.underlying139 Tryd.underlying140 Tryd.underlying141 Tryd.underlying142 Tryd.underlying143 Tryd.underlying144 Tryd.underlying145 Tryd.underlying146 Tryd.underlying147
  Tryd.eqGuardType7 Tryd.eqGuardType8 Tryd.eqGuardType13 Tryd.eqGuardType14 Tryd.eqGuardType18 Tryd.eqGuardType19 Tryd.eqGuardType55 Tryd.eqGuardType56 Tryd.eqGuardType59 Tryd.eqGuardType60 Tryd.eqGuardType63 Tryd.eqGuardType69
  Tryd.eqGuardType77 Tryd.eqGuardType78 Tryd.eqGuardType80 Tryd.eqGuardType81 Tryd.eqGuardType106 Tryd.eqGuardType107 Tryd.eqGuardType113 Tryd.eqGuardType114 Tryd.eqGuardType118 Tryd.eqGuardType128 Tryd.eqGuardType133 Tryd.eqGuardType134
  Tryd.eqGuardType135 Tryd.eqGuardType136 Tryd.eqGuardType137 Tryd.eqGuardType145 Tryd.eqGuardType146
end Go.Proofs.YtonllhjmoenckaaDoor
