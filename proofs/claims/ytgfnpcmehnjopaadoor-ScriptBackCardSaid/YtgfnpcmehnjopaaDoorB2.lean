/- Parts of the proofs, joined: CrcT, CrcM, ScrT, Row, Tab, Tab2. -/
import Derived.Test.YtgfnpcmehnjopaaDoorB1
import Derived.OpenShut
import Derived.Test.YtgfnpcmehnjopaaDoorRows
import Derived.Lib.LaidTab
import Derived.ProofKit
import Derived.LaidMore
import Derived.Stop.Joined
section
namespace Go.Proofs.YtgfnpcmehnjopaaDoor
section
open Go.RowKit
set_option linter.unusedVariables false
set_option linter.unusedSimpArgs false
attribute [local go_sem] B_xor_pow
end
section
open Go.RowKit
set_option linter.unusedVariables false
set_option linter.unusedSimpArgs false
def bitN (n k : Nat) : Int := ((n / 2 ^ k % 2 : Nat) : Int)
def rbit1 (c : UInt32) (x : UInt8) (k : Nat) : UInt32 := if ((c.toNat % 2 : Nat) : Int) ≠ bitN x.toNat k then c >>> 1 ^^^ 2197175160 else c >>> 1
def rbyteN (c : UInt32) (x : UInt8) (k : Nat) : UInt32 := (List.range k).foldl (fun c k => rbit1 c x k) c
def rsumF (l : List UInt8) : UInt32 := ~~~(l.foldl (fun c x => rbyteN c x 8) 4294967295)
theorem U_tdiv2 (a : UInt32) : (U a).tdiv (2 : Int) % (4294967296 : Int) = U (a >>> 1) := by
  have h0 := U_lo a
  have h1 := U_hi a
  rw [Int.tdiv_eq_ediv_of_nonneg h0, U_half]
  have h2 := U_lo (a >>> 1)
  have h3 := U_hi (a >>> 1)
  omega
theorem U_wrap (a : UInt32) : U a % (4294967296 : Int) = U a := by have := U_lo a; have := U_hi a; omega
theorem U_poly (a : UInt32) : bits .xor .u32 (U a) 2197175160 = U (a ^^^ 2197175160) := U_xor a 2197175160
attribute [local go_sem] U_tdiv2 U_poly U_flip U_wrap
end
section
open Go.RowKit
set_option linter.unusedVariables false
set_option linter.unusedSimpArgs false
def rsealF (l : List UInt8) : List UInt8 := l ++ tail4 (rsumF l)
def ropenF (l : List UInt8) : List UInt8 × Int :=
  if l.length < 4 then ([], 2) else if rsealF (l.take (l.length - 4)) = l then (l.take (l.length - 4), 0) else ([], 5)
theorem U_tmod256 (a : UInt32) : (U a).tmod (256 : Int) = B a.toUInt8 := by rw [Int.tmod_eq_emod_of_nonneg (U_lo a), U_b0]
theorem U_tdiv_8 (a : UInt32) : (U a).tdiv (256 : Int) % (4294967296 : Int) = U (a >>> 8) := by
  have h2 := U_lo (a >>> 8)
  have h3 := U_hi (a >>> 8)
  rw [Int.tdiv_eq_ediv_of_nonneg (U_lo a), U_shr8]
  omega
theorem U_tdiv_16 (a : UInt32) : (U a).tdiv (65536 : Int) % (4294967296 : Int) = U (a >>> 16) := by
  have h2 := U_lo (a >>> 16)
  have h3 := U_hi (a >>> 16)
  rw [Int.tdiv_eq_ediv_of_nonneg (U_lo a), U_shr16]
  omega
theorem U_tdiv_24 (a : UInt32) : (U a).tdiv (16777216 : Int) % (4294967296 : Int) = U (a >>> 24) := by
  have h2 := U_lo (a >>> 24)
  have h3 := U_hi (a >>> 24)
  rw [Int.tdiv_eq_ediv_of_nonneg (U_lo a), U_shr24]
  omega
theorem B_wrap (a : UInt8) : B a % (256 : Int) = B a := by have := B_lo a; have := B_hi a; omega
attribute [local go_sem] U_tmod256 U_tdiv_8 U_tdiv_16 U_tdiv_24 B_wrap U_b0
end
end Go.Proofs.YtgfnpcmehnjopaaDoor
end
section
namespace Go.Proofs.YtgfnpcmehnjopaaDoor
section
set_option linter.unusedVariables false
set_option linter.unusedSimpArgs false
def poly : BitVec 32 := 0x82f63b78#32
def t1 (c : BitVec 32) : BitVec 32 := (c >>> 1) ^^^ (if c.getLsbD 0 then poly else 0#32)
def t1n : Nat → BitVec 32 → BitVec 32
  | 0, c => c
  | n + 1, c => t1n n (t1 c)
def b2w (b : Bool) : BitVec 32 := if b then 1#32 else 0#32
def reg (c : BitVec 32) (bs : List Bool) : BitVec 32 := bs.foldl (fun c b => t1 (c ^^^ b2w b)) c
def word : List Bool → BitVec 32
  | [] => 0#32
  | b :: bs => b2w b ^^^ (word bs <<< 1)
end
section
set_option linter.unusedVariables false
set_option linter.unusedSimpArgs false
def bits8 (x : UInt8) : List Bool := (List.range 8).map fun r => x.toNat.testBit r
def bitsOf (l : List UInt8) : List Bool := l.flatMap bits8
def bitAt (l : List UInt8) (p : Nat) : Bool := (l.getD (p / 8) 0).toNat.testBit (p % 8)
def eK (at_ : Int) (m : UInt32) (k p : Nat) : Bool := decide (at_ ≤ p ∧ (p : Int) < at_ + k) && mbit m ((p : Int) - at_).toNat
theorem openF_seal (l : List UInt8) : openF (sealF l) = (l, 0) := by
  have hl : (sealF l).length = l.length + 4 := by simp [sealF, tail4]
  have ht : (sealF l).take ((sealF l).length - 4) = l := by rw [hl, Nat.add_sub_cancel]; unfold sealF; exact List.take_left
  unfold openF
  rw [if_neg (by omega), ht, if_pos rfl]
end
section
set_option linter.unusedVariables false
set_option linter.unusedSimpArgs false
end
end Go.Proofs.YtgfnpcmehnjopaaDoor
end
section
namespace Go.Proofs.YtgfnpcmehnjopaaDoor
open Go Go.RowKit
set_option linter.unusedVariables false
set_option linter.unusedSimpArgs false
variable {K : Nat → Obj → Prop}
def tl (d : Nat) : Int := [97, 1, 2, 4, 4, 4, 28, 130, 6].getD d 0
def TabT (w : World) : Prop := ∀ i : Nat, i < 9 → w.cell? ⟨0, i, none⟩ = some (.int .i64 (tl i))
set_option maxRecDepth 100000 in
set_option maxHeartbeats 400000 in
theorem has_c (d part : Int) (rs : Array Value) (w : World) (ht : TabT w) (h0 : 0 ≤ d) (h8 : d < 9) (hr : rs[0]? = some (.int .i64 d)) (hw : 0 < w.heap.size) :
    Calls Tryd.prog 52 #[.agg rs, .int .i64 part] w (RetV w (.bool (decide (bits .and .i64 (tl d.toNat) part ≠ 0)))) := by
  have t1 := ht d.toNat (by omega)
  clear ht
  generalize tl d.toNat = z at t1 ⊢
  go_enter Tryd.func52, Tryd.ntmps52
  go_wp2
  go_ret
  refine ⟨by by_cases hz0 : bits .and .i64 z part = 0 <;> simp [hz0], (Below.refl _ _).alloc (Nat.le_refl _) _⟩
end Go.Proofs.YtgfnpcmehnjopaaDoor
end
section
namespace Go.Proofs.YtgfnpcmehnjopaaDoor
open Go.RowKit
set_option linter.unusedVariables false
set_option linter.unusedSimpArgs false
end Go.Proofs.YtgfnpcmehnjopaaDoor
end
section
namespace Go.Proofs.YtgfnpcmehnjopaaDoor
open Go.ChangeShapes Go.WideShapes Go.ChangeAt Go.RowKit
set_option linter.unusedVariables false
set_option linter.unusedSimpArgs false
theorem gFour : Tryd.prog.globalNamed "packetboat/crc.four" = some 1 := by kernel_rfl
theorem tFour : (Tryd.prog.globals[1]?).map (·.type) = some 201 := by kernel_rfl
theorem cFour : Tryd.prog.cellsOf 201 = 16 := by kernel_rfl
theorem cU32 : Tryd.prog.cellsOf 36 = 1 := by kernel_rfl
theorem tab_nums : ∀ n : Nat, n < 16 → (tab4.map fun z : Nat => (z : Int)).getD n 0 = (((UInt32.ofNat (tab4.getD n 0)).toNat : Nat) : Int) := by decide
end Go.Proofs.YtgfnpcmehnjopaaDoor
end
section
namespace Go.Proofs.YtgfnpcmehnjopaaDoor
open Go Go.ChangeShapes Go.WideShapes Go.ChangeAt Go.RowKit
set_option linter.unusedVariables false
set_option linter.unusedSimpArgs false
theorem laidMet_tail {P : Program} {W : World} {a : String × DataW Unit} {rest : List (String × DataW Unit)} (h : laidMet P (a :: rest) W) : laidMet P rest W := by
  obtain ⟨n, d⟩ := a
  obtain ⟨ps, ⟨g, t, cs, fuel, p, q, _, _, _, _, hr, rfl⟩, hn, hc⟩ := h
  exact ⟨q, hr, (List.nodup_append.1 hn).2.1, fun b off hm => hc b off (List.mem_append_right _ hm)⟩
theorem gTells : Tryd.prog.globalNamed "packetboat/script.tells" = some 0 := by kernel_rfl
theorem tTells : (Tryd.prog.globals[0]?).map (·.type) = some 158 := by kernel_rfl
theorem cTells : Tryd.prog.cellsOf 158 = 9 := by kernel_rfl
theorem cInt1 : Tryd.prog.cellsOf 3 = 1 := by kernel_rfl
theorem tl_nums : ∀ n : Nat, n < 9 → ([97, 1, 2, 4, 4, 4, 28, 130, 6] : List Int).getD n 0 = tl n := by decide
theorem tabs_of_laid {W : World} (h : laidMetH Tryd.prog [("packetboat/crc.four", Rows.laid_packetboat_crc_four), ("packetboat/script.tells", Rows.laid_packetboat_script_tells)] W) : Tab W ∧ TabT W := by
  rw [MakeChecks.laidMetH_plain _ _ _ (by kernel_rfl)] at h
  have hT : Lib.TabIs Tryd.prog W "packetboat/crc.four" .u32 (tab4.map fun z : Nat => (z : Int)) := Lib.tabIs_of_head gFour tFour Tryd.underlying201 Tryd.underlying36 cU32 cFour h
  have hS : Lib.TabIs Tryd.prog W "packetboat/script.tells" .i64 [97, 1, 2, 4, 4, 4, 28, 130, 6] := Lib.tabIs_of_head gTells tTells Tryd.underlying158 Tryd.underlying3 cInt1 cTells (laidMet_tail h)
  refine ⟨fun i hi => ?_, fun i hi => ?_⟩
  · have := hT.cell gFour i.toNat (by rw [List.length_map]; exact hi)
    rw [tab_nums _ hi] at this
    exact this
  · have := hS.cell gTells i hi
    rw [tl_nums _ hi] at this
    exact this
end Go.Proofs.YtgfnpcmehnjopaaDoor
end
