/- Parts of the proofs, joined: Sl, CrcW2, CrcT, CrcM, Tab. -/
import Derived.Test.YtgfnpcmehnjopaaDoorG1
import Derived.Test.YtgfnpcmehnjopaaDoorProg
import Derived.KernelRfl
import Derived.LoopTactic
import Derived.Deep.LoopGhost
import Derived.Deep.QuietTactic
import Derived.BigQuiet
import Derived.Outline
import Derived.Test.YtgfnpcmehnjopaaDoorRows
import Derived.Lib.LaidTab
import Derived.ProofKit
import Derived.LaidMore
import Derived.OpenShut
import Derived.Stop.Joined
section
namespace Go.Proofs.YtgfnpcmehnjopaaDoor
open Go.RowKit
set_option linter.unusedVariables false
set_option linter.unusedSimpArgs false
set_option maxHeartbeats 400000 in
theorem clone_c (v : Value) (l : List UInt8) (w : World) (h : Sb w v l) (hl : l.length ≤ 1073741824) :
    Calls Tryd.prog 75 #[v] w (RetB w l) := by
  obtain ⟨A, c, rfl, h1, h2⟩ := h.form
  have hq := eql_nil_u8
  cases A with
  | none =>
    have hl0 : l = [] := by
      cases l with
      | nil => rfl
      | cons x xs => obtain ⟨ad, e, _⟩ := h.at_ 0 (by simp); cases e
    subst hl0
    go_enter Tryd.func75, Tryd.ntmps75
    go_wp2
    go_ret
    exact ⟨_, rfl, Ob.nil _ _, Below.refl _ _⟩
  | some ad =>
    have H := Lib.hid h
    clear h
    go_enter Tryd.func75, Tryd.ntmps75
    go_wp2_with (at_builtin; refine wpList_app _ rfl _ _ _ rfl w.heap.size 5 _ 1 1 Tryd.underlying23 info_u8 rfl (by omega) (.slice (some ⟨w.heap.size, 0, none⟩) 0 0) 0 [] rfl (own_new w #[] _ 0 1 _ (Nat.le_refl _) rfl (by omega)) _ l.length (l.map bv) rfl (Sl.alloc H.out _) (bvs_one l) (by omega) (by simp only [maxLen]; omega) (by simp) ?_; intro v1 w1 hown1 hg1 hat1)
    go_ret
    exact ⟨_, rfl, by simpa [Ob] using hown1, ((Below.refl _ _).alloc (Nat.le_refl _) _).grown hg1 (by simp) (by simp [Value.ownBlock])⟩
set_option maxHeartbeats 400000 in
theorem equal_c (v u : Value) (l m : List UInt8) (w : World) (h : Sb w v l) (h' : Sb w u m) :
    Calls Tryd.prog 111 #[v, u] w (RetV w (.bool (decide (l = m)))) := by
  obtain ⟨A, c, rfl, h1, h2⟩ := h.form
  obtain ⟨A', c', rfl, h1', h2'⟩ := h'.form
  by_cases hlen : l.length = m.length
  · have hm : m.length ≤ 9223372036854775807 := by omega
    have H := Lib.hid h
    have H' := Lib.hid h'
    clear h h' h1 h1' h2 h2'
    have HE := Lib.hid hlen
    rw [hlen]
    clear hlen
    go_enter Tryd.func111, Tryd.ntmps111
    go_wp2
    go_loopw [13] (fun i wr => ∃ k n : Nat, k ≤ m.length ∧ i = .int .i64 k ∧ Hid (l.take k = m.take k) ∧ wr = w.drewN n) (fun i _ => m.length - (intOf i).toNat)
    case atStart => exact ⟨0, 0, Nat.zero_le _, rfl, (by simp [Hid]), rfl⟩
    case round =>
      obtain ⟨k, n, hk, rfl, hh, rfl⟩ := hrel
      by_cases hlt : k < m.length
      · have hltl : k < l.length := by rw [HE.out]; exact hlt
        obtain ⟨ad, rfl, had⟩ := H.out.at_ k hltl
        obtain ⟨ad', rfl, had'⟩ := H'.out.at_ k hlt
        by_cases he : l[k] = m[k]
        · have he' : (B l[k] != B m[k]) = false := by rw [he]; simp
          have HN := Lib.hid he
          clear he
          go_wp2
          go_quiet (fail)
          go_wp2
          go_roundw
          case rel => exact ⟨k + 1, _, by omega, by go_num, (by unfold Hid; rw [List.take_succ_eq_append_getElem hltl, List.take_succ_eq_append_getElem hlt, hh.out, HN.out]), rfl⟩
          case measure => simp [intOf]; omega
        · have he' : (B l[k] != B m[k]) = true := by rw [bne_iff_ne]; exact fun h => he (B_inj h)
          have hf : decide (l = m) = false := by simp; rintro rfl; exact he rfl
          have HF := Lib.hid hf
          clear he hf
          go_wp2
          go_quiet (fail)
          go_wp2
          go_ret
          exact ⟨by rw [HF.out]; rfl, below_drewN (below_drewN (Below.refl _ _) _) _⟩
      · have hf : decide (l = m) = true := by
          have h0 := hh.out
          rw [List.take_of_length_le (by rw [HE.out]; omega), List.take_of_length_le (by omega)] at h0
          simpa using h0
        have HF := Lib.hid hf
        clear hf
        go_wp2
        go_ret
        exact ⟨by rw [HF.out]; rfl, below_drewN (Below.refl _ _) _⟩
  · have hd : decide (l = m) = false := by simp; rintro rfl; exact hlen rfl
    rw [hd]
    have hn : ((l.length : Int) != (m.length : Int)) = true := by rw [bne_iff_ne]; omega
    clear hd hlen h h'
    go_enter Tryd.func111, Tryd.ntmps111
    go_wp2
    go_ret
    exact ⟨rfl, Below.refl _ _⟩
end Go.Proofs.YtgfnpcmehnjopaaDoor
end
section
namespace Go.Proofs.YtgfnpcmehnjopaaDoor
open Go.RowKit
set_option linter.unusedVariables false
set_option linter.unusedSimpArgs false
theorem more_c (s : UInt32) (v : Value) (l : List UInt8) (w : World) (ht : Tab w) (h : Sb w v l) :
    Calls Tryd.prog 110 #[.int .u32 (U s), v] w (RetV w (.int .u32 (U (moreF s l)))) := by
  obtain ⟨A, c, rfl, h1, h2⟩ := h.form
  exact (more_walk s A c l w ht h).mono fun e w' ⟨he, hw⟩ => ⟨he, hw ▸ Below.refl _ _⟩
set_option maxHeartbeats 400000 in
theorem sum_c (v : Value) (l : List UInt8) (w : World) (ht : Tab w) (h : Sb w v l) :
    Calls Tryd.prog 74 #[v] w (RetV w (.int .u32 (U (sumF l)))) := by
  have H := Lib.hid h
  have HT := Lib.hid ht
  clear h ht
  go_enter Tryd.func74, Tryd.ntmps74
  go_wp2_with (go_at_call 110; refine (more_c 0 v l _ HT.out H.out).mono ?_; rintro e w1 ⟨rfl, hb⟩)
  go_ret
  exact ⟨rfl, hb⟩
attribute [local go_sem] U_b0 U_b1 U_b2 U_b3
set_option maxHeartbeats 400000 in
theorem seal_c (v : Value) (l : List UInt8) (w : World) (ht : Tab w) (h : Sb w v l) (hl : l.length ≤ 1000000000) :
    Calls Tryd.prog 36 #[v] w (RetB w (sealF l)) := by
  have H := Lib.hid h
  have HT := Lib.hid ht
  clear h ht
  go_enter Tryd.func36, Tryd.ntmps36
  go_wp2_with (first
    | (go_at_call 74; refine (sum_c v l _ HT.out H.out).mono ?_; rintro e w1 ⟨rfl, hb1⟩)
    | (go_at_call 75; refine (clone_c v l _ (H.out.below hb1) (by omega)).mono ?_; rintro e w2 ⟨u, rfl, ho2, hb2⟩)
    | (at_builtin; refine wpList_app _ rfl _ _ _ rfl w1.heap.size 5 _ 1 1 Tryd.underlying23 info_u8 rfl (by omega) u l.length (l.map bv) rfl (own_below ho2 ((Below.refl _ _).alloc (Nat.le_refl _) _)) (.slice (some ⟨w2.heap.size, 0, none⟩) 4 4) 4 ((tail4 (sumF l)).map bv) rfl (Sl.new w2 _ _ (by simp)) (bvs_one _) (by omega) (by simp only [maxLen]; omega) (by have := hb2.size; simp; omega) ?_; intro v3 w3 ho3 hg3 hat3))
  go_ret
  have hb12 := below_then hb1 hb1.size hb2
  refine ⟨v3, rfl, by simpa [Ob, sealF, tail4] using own_base ho3 hb1.size, (hb12.alloc hb12.size _).grown hg3 (by have := hb12.size; simp; omega) fun k hk => Nat.le_trans hb1.size (own_ge ho2 k hk)⟩
set_option maxHeartbeats 400000 in
theorem open_c (v : Value) (l : List UInt8) (w : World) (ht : Tab w) (h : Sb w v l) (hl : l.length ≤ 1000000000) :
    Calls Tryd.prog 76 #[v] w (RetBE w (openF l).1 (openF l).2) := by
  obtain ⟨A, c, rfl, h1, h2⟩ := h.form
  have H := Lib.hid h
  have HT := Lib.hid ht
  clear h ht
  by_cases h4 : l.length < 4
  · have hf : openF l = ([], 2) := by simp [openF, h4]
    rw [hf]
    go_enter Tryd.func76, Tryd.ntmps76
    go_wp2
    go_ret2
    exact ⟨_, rfl, Ob.nil _ _, Below.refl _ _⟩
  · have hlt : (l.take (l.length - 4)).length = l.length - 4 := by rw [List.length_take]; omega
    have HL := Lib.hid hlt
    clear hlt
    by_cases he : sealF (l.take (l.length - 4)) = l
    · have hf : openF l = (l.take (l.length - 4), 0) := by simp [openF, h4, he]
      have hd : decide (sealF (l.take (l.length - 4)) = l) = true := by simpa using he
      rw [hf]
      clear hf he
      go_enter Tryd.func76, Tryd.ntmps76
      go_wp2_with (first
        | (go_at_call 36; refine (seal_c _ _ _ HT.out (H.out.take (l.length - 4) (by omega)) (by rw [HL.out]; omega)).mono ?_; rintro e w1 ⟨u1, rfl, ho1, hb1⟩)
        | (go_at_call 111; refine (equal_c u1 _ _ l _ ho1.sb (H.out.below hb1)).mono ?_; rintro e w2 ⟨rfl, hb2⟩)
        | (go_at_call 75; refine (clone_c _ _ _ (((H.out.take (l.length - 4) (by omega)).below hb1).below hb2) (by rw [HL.out]; omega)).mono ?_; rintro e w3 ⟨u3, rfl, ho3, hb3⟩))
      go_ret2
      have hb12 := below_then hb1 hb1.size hb2
      exact ⟨_, rfl, ho3.to hb12.size, below_then hb12 hb12.size hb3⟩
    · have hf : openF l = ([], 5) := by simp [openF, h4, he]
      have hd : decide (sealF (l.take (l.length - 4)) = l) = false := by simpa using he
      rw [hf]
      clear hf he
      go_enter Tryd.func76, Tryd.ntmps76
      go_wp2_with (first
        | (go_at_call 36; refine (seal_c _ _ _ HT.out (H.out.take (l.length - 4) (by omega)) (by rw [HL.out]; omega)).mono ?_; rintro e w1 ⟨u1, rfl, ho1, hb1⟩)
        | (go_at_call 111; refine (equal_c u1 _ _ l _ ho1.sb (H.out.below hb1)).mono ?_; rintro e w2 ⟨rfl, hb2⟩))
      go_ret2
      have hb12 := below_then hb1 hb1.size hb2
      exact ⟨_, rfl, Ob.nil _ _, hb12⟩
end Go.Proofs.YtgfnpcmehnjopaaDoor
end
section
namespace Go.Proofs.YtgfnpcmehnjopaaDoor
section
open Go.RowKit
set_option linter.unusedVariables false
set_option linter.unusedSimpArgs false
attribute [local go_sem] B_xor_pow
end
section
open Go.RowKit
set_option linter.unusedVariables false
set_option linter.unusedSimpArgs false
def bitN (n k : Nat) : Int := ((n / 2 ^ k % 2 : Nat) : Int)
def rbit1 (c : UInt32) (x : UInt8) (k : Nat) : UInt32 := if ((c.toNat % 2 : Nat) : Int) ≠ bitN x.toNat k then c >>> 1 ^^^ 2197175160 else c >>> 1
def rbyteN (c : UInt32) (x : UInt8) (k : Nat) : UInt32 := (List.range k).foldl (fun c k => rbit1 c x k) c
def rsumF (l : List UInt8) : UInt32 := ~~~(l.foldl (fun c x => rbyteN c x 8) 4294967295)
theorem U_tdiv2 (a : UInt32) : (U a).tdiv (2 : Int) % (4294967296 : Int) = U (a >>> 1) := by
  have h0 := U_lo a
  have h1 := U_hi a
  rw [Int.tdiv_eq_ediv_of_nonneg h0, U_half]
  have h2 := U_lo (a >>> 1)
  have h3 := U_hi (a >>> 1)
  omega
theorem U_wrap (a : UInt32) : U a % (4294967296 : Int) = U a := by have := U_lo a; have := U_hi a; omega
theorem U_poly (a : UInt32) : bits .xor .u32 (U a) 2197175160 = U (a ^^^ 2197175160) := U_xor a 2197175160
attribute [local go_sem] U_tdiv2 U_poly U_flip U_wrap
end
section
open Go.RowKit
set_option linter.unusedVariables false
set_option linter.unusedSimpArgs false
def rsealF (l : List UInt8) : List UInt8 := l ++ tail4 (rsumF l)
def ropenF (l : List UInt8) : List UInt8 × Int :=
  if l.length < 4 then ([], 2) else if rsealF (l.take (l.length - 4)) = l then (l.take (l.length - 4), 0) else ([], 5)
theorem U_tmod256 (a : UInt32) : (U a).tmod (256 : Int) = B a.toUInt8 := by rw [Int.tmod_eq_emod_of_nonneg (U_lo a), U_b0]
theorem U_tdiv_8 (a : UInt32) : (U a).tdiv (256 : Int) % (4294967296 : Int) = U (a >>> 8) := by
  have h2 := U_lo (a >>> 8)
  have h3 := U_hi (a >>> 8)
  rw [Int.tdiv_eq_ediv_of_nonneg (U_lo a), U_shr8]
  omega
theorem U_tdiv_16 (a : UInt32) : (U a).tdiv (65536 : Int) % (4294967296 : Int) = U (a >>> 16) := by
  have h2 := U_lo (a >>> 16)
  have h3 := U_hi (a >>> 16)
  rw [Int.tdiv_eq_ediv_of_nonneg (U_lo a), U_shr16]
  omega
theorem U_tdiv_24 (a : UInt32) : (U a).tdiv (16777216 : Int) % (4294967296 : Int) = U (a >>> 24) := by
  have h2 := U_lo (a >>> 24)
  have h3 := U_hi (a >>> 24)
  rw [Int.tdiv_eq_ediv_of_nonneg (U_lo a), U_shr24]
  omega
theorem B_wrap (a : UInt8) : B a % (256 : Int) = B a := by have := B_lo a; have := B_hi a; omega
attribute [local go_sem] U_tmod256 U_tdiv_8 U_tdiv_16 U_tdiv_24 B_wrap U_b0
end
end Go.Proofs.YtgfnpcmehnjopaaDoor
end
section
namespace Go.Proofs.YtgfnpcmehnjopaaDoor
section
set_option linter.unusedVariables false
set_option linter.unusedSimpArgs false
def poly : BitVec 32 := 0x82f63b78#32
def t1 (c : BitVec 32) : BitVec 32 := (c >>> 1) ^^^ (if c.getLsbD 0 then poly else 0#32)
def t1n : Nat → BitVec 32 → BitVec 32
  | 0, c => c
  | n + 1, c => t1n n (t1 c)
def b2w (b : Bool) : BitVec 32 := if b then 1#32 else 0#32
def reg (c : BitVec 32) (bs : List Bool) : BitVec 32 := bs.foldl (fun c b => t1 (c ^^^ b2w b)) c
def word : List Bool → BitVec 32
  | [] => 0#32
  | b :: bs => b2w b ^^^ (word bs <<< 1)
end
section
set_option linter.unusedVariables false
set_option linter.unusedSimpArgs false
def bits8 (x : UInt8) : List Bool := (List.range 8).map fun r => x.toNat.testBit r
def bitsOf (l : List UInt8) : List Bool := l.flatMap bits8
def bitAt (l : List UInt8) (p : Nat) : Bool := (l.getD (p / 8) 0).toNat.testBit (p % 8)
def eK (at_ : Int) (m : UInt32) (k p : Nat) : Bool := decide (at_ ≤ p ∧ (p : Int) < at_ + k) && mbit m ((p : Int) - at_).toNat
theorem openF_seal (l : List UInt8) : openF (sealF l) = (l, 0) := by
  have hl : (sealF l).length = l.length + 4 := by simp [sealF, tail4]
  have ht : (sealF l).take ((sealF l).length - 4) = l := by rw [hl, Nat.add_sub_cancel]; unfold sealF; exact List.take_left
  unfold openF
  rw [if_neg (by omega), ht, if_pos rfl]
end
section
set_option linter.unusedVariables false
set_option linter.unusedSimpArgs false
end
end Go.Proofs.YtgfnpcmehnjopaaDoor
end
section
namespace Go.Proofs.YtgfnpcmehnjopaaDoor
open Go.ChangeShapes Go.WideShapes Go.ChangeAt Go.RowKit
set_option linter.unusedVariables false
set_option linter.unusedSimpArgs false
theorem gFour : Tryd.prog.globalNamed "packetboat/crc.four" = some 1 := by kernel_rfl
theorem tFour : (Tryd.prog.globals[1]?).map (·.type) = some 201 := by kernel_rfl
theorem cFour : Tryd.prog.cellsOf 201 = 16 := by kernel_rfl
theorem cU32 : Tryd.prog.cellsOf 36 = 1 := by kernel_rfl
theorem tab_nums : ∀ n : Nat, n < 16 → (tab4.map fun z : Nat => (z : Int)).getD n 0 = (((UInt32.ofNat (tab4.getD n 0)).toNat : Nat) : Int) := by decide
theorem tab_of_laid {W : World} (h : laidMetH Tryd.prog [("packetboat/crc.four", Rows.laid_packetboat_crc_four)] W) : Tab W := by
  rw [MakeChecks.laidMetH_plain _ _ _ (by kernel_rfl)] at h
  have hT : Lib.TabIs Tryd.prog W "packetboat/crc.four" .u32 (tab4.map fun z : Nat => (z : Int)) := Lib.tabIs_of_head gFour tFour Tryd.underlying201 Tryd.underlying36 cU32 cFour h
  intro i hi
  have := hT.cell gFour i.toNat (by rw [List.length_map]; exact hi)
  rw [tab_nums _ hi] at this
  exact this
end Go.Proofs.YtgfnpcmehnjopaaDoor
end
