/- From the row's condition on the listed table to the words of the walks. -/
import Derived.Test.YtonllhjmoenckaaDoorRows
import Derived.Test.YtonllhjmoenckaaDoorCrcW2
import Derived.Lib.LaidTab
import Derived.ProofKit
import Derived.LaidMore
import Derived.OpenShut
import Derived.Stop.Joined
namespace Go.Proofs.YtonllhjmoenckaaDoor
open Go.ChangeShapes Go.WideShapes Go.ChangeAt Go.RowKit
set_option linter.unusedVariables false
set_option linter.unusedSimpArgs false

theorem gFour : Tryd.prog.globalNamed "packetboat/crc.four" = some 1 := by kernel_rfl
theorem tFour : (Tryd.prog.globals[1]?).map (·.type) = some 128 := by kernel_rfl
theorem cFour : Tryd.prog.cellsOf 128 = 16 := by kernel_rfl
theorem cU32 : Tryd.prog.cellsOf 42 = 1 := by kernel_rfl
theorem tab_nums : ∀ n : Nat, n < 16 → (tab4.map fun z : Nat => (z : Int)).getD n 0 = (((UInt32.ofNat (tab4.getD n 0)).toNat : Nat) : Int) := by decide

theorem tab_of_laid {W : World} (h : laidMetH Tryd.prog [("packetboat/crc.four", Rows.laid_packetboat_crc_four)] W) : Tab W := by
  rw [MakeChecks.laidMetH_plain _ _ _ (by kernel_rfl)] at h
  have hT : Lib.TabIs Tryd.prog W "packetboat/crc.four" .u32 (tab4.map fun z : Nat => (z : Int)) := Lib.tabIs_of_head gFour tFour Tryd.underlying128 Tryd.underlying42 cU32 cFour h
  intro i hi
  have := hT.cell gFour i.toNat (by rw [List.length_map]; exact hi)
  rw [tab_nums _ hi] at this
  exact this
end Go.Proofs.YtonllhjmoenckaaDoor
