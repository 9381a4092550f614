/- Walk through the reference's Same. -/
import Derived.Test.YtonllhjmoenckaaProg
import Derived.Test.YtonllhjmoenckaaWords
import Derived.KernelRfl
import Derived.LoopTactic
import Derived.Deep.LoopGhost
import Derived.Deep.QuietTactic
import Derived.BigQuiet
import Derived.Outline
namespace Go.Proofs.Ytonllhjmoenckaa
open Go.RowKit
set_option linter.unusedVariables false
set_option linter.unusedSimpArgs false

theorem info_u8 : (Try.prog.info? 5).map (fun i => (i.zero, i.size, i.bytes)) = some (some (.int .u8 0), 1, 1) := by kernel_rfl
theorem eql_nil_u8 (W : World) (A : Option Addr) (n c : Nat) : (binOp .eql 33 (.slice A n c) (.slice none 0 0)).run Try.prog W = .ok (.bool A.isNone) W :=
  Lib.run_eql_slice_nil (P := Try.prog) W 33 5 A n c 0 0 Try.underlying33

set_option maxHeartbeats 400000 in
theorem same_c (v u : Value) (l m : List UInt8) (w : World) (h : Sb w v l) (h' : Sb w u m) :
    Calls Try.prog 37 #[v, u] w (RetV w (.bool (decide (l = m)))) := by
  obtain ⟨A, c, rfl, h1, h2⟩ := h.form
  obtain ⟨A', c', rfl, h1', h2'⟩ := h'.form
  by_cases hlen : l.length = m.length
  · have hm : m.length ≤ 9223372036854775807 := by omega
    have H := Lib.hid h
    have H' := Lib.hid h'
    clear h h' h1 h1' h2 h2'
    have HE := Lib.hid hlen
    rw [hlen]
    clear hlen
    go_enter Try.func37, Try.ntmps37
    go_wp2
    go_loopw [5] (fun i wr => ∃ k n : Nat, k ≤ m.length ∧ i = .int .i64 k ∧ Hid (l.take k = m.take k) ∧ wr = w.drewN n) (fun i _ => m.length - (intOf i).toNat)
    case atStart => exact ⟨0, 0, Nat.zero_le _, rfl, (by simp [Hid]), rfl⟩
    case round =>
      obtain ⟨k, n, hk, rfl, hh, rfl⟩ := hrel
      by_cases hlt : k < m.length
      · have hltl : k < l.length := by rw [HE.out]; exact hlt
        obtain ⟨ad, rfl, had⟩ := H.out.at_ k hltl
        obtain ⟨ad', rfl, had'⟩ := H'.out.at_ k hlt
        by_cases he : l[k] = m[k]
        · have he' : (B l[k] != B m[k]) = false := by rw [he]; simp
          have HN := Lib.hid he
          clear he
          go_wp2
          go_quiet (fail)
          go_wp2
          go_roundw
          case rel => exact ⟨k + 1, _, by omega, by go_num, (by unfold Hid; rw [List.take_succ_eq_append_getElem hltl, List.take_succ_eq_append_getElem hlt, hh.out, HN.out]), rfl⟩
          case measure => simp [intOf]; omega
        · have he' : (B l[k] != B m[k]) = true := by rw [bne_iff_ne]; exact fun h => he (B_inj h)
          have hf : decide (l = m) = false := by simp; rintro rfl; exact he rfl
          have HF := Lib.hid hf
          clear he hf
          go_wp2
          go_quiet (fail)
          go_wp2
          go_ret
          exact ⟨by rw [HF.out]; rfl, below_drewN (below_drewN (Below.refl _ _) _) _⟩
      · have hf : decide (l = m) = true := by
          have h0 := hh.out
          rw [List.take_of_length_le (by rw [HE.out]; omega), List.take_of_length_le (by omega)] at h0
          simpa using h0
        have HF := Lib.hid hf
        clear hf
        go_wp2
        go_ret
        exact ⟨by rw [HF.out]; rfl, below_drewN (Below.refl _ _) _⟩
  · have hd : decide (l = m) = false := by simp; rintro rfl; exact hlen rfl
    rw [hd]
    have hn : ((l.length : Int) != (m.length : Int)) = true := by rw [bne_iff_ne]; omega
    clear hd hlen h h'
    go_enter Try.func37, Try.ntmps37
    go_wp2
    go_ret
    exact ⟨rfl, Below.refl _ _⟩
end Go.Proofs.Ytonllhjmoenckaa
