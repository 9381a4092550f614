/- Walks through package vint and its reference: a number's bytes. -/
import Derived.Test.YtonllhjmoenckaaProg
import Derived.Test.YtonllhjmoenckaaSame
import Derived.Test.YtonllhjmoenckaaLen
import Derived.KernelRfl
import Derived.LoopTactic
import Derived.Deep.LoopGhost
import Derived.Deep.QuietTactic
import Derived.BigQuiet
import Derived.Outline
namespace Go.Proofs.Ytonllhjmoenckaa
open Go.RowKit
set_option linter.unusedVariables false
set_option linter.unusedSimpArgs false

theorem W_div (a : UInt64) : W a / (128 : Int) = W (a / 128) := by
  unfold W; rw [UInt64.toNat_div]; rfl
theorem W_tdiv (a : UInt64) : Int.tdiv (W a) (128 : Int) = W (a / 128) := by
  rw [← W_div]; exact Int.tdiv_eq_ediv_of_nonneg (W_lo a)
def hib (a : UInt64) : UInt8 := UInt8.ofNat (a.toNat % 128 + 128)
def lob (a : UInt64) : UInt8 := UInt8.ofNat a.toNat
theorem W_lob (a : UInt64) : W a % (256 : Int) = B (lob a) := by
  unfold W B lob; rw [UInt8.toNat_ofNat']; omega
set_option maxRecDepth 100000 in
theorem or128 : ∀ b : UInt8, b ||| 128 = UInt8.ofNat (b.toNat % 128 + 128) := by
  intro b
  have h : ∀ k : Fin 256, (UInt8.ofNat k.val) ||| 128 = UInt8.ofNat ((UInt8.ofNat k.val).toNat % 128 + 128) := by decide
  have := h ⟨b.toNat, b.toNat_lt⟩
  simpa using this
theorem B_or128 (a : UInt64) : bits .or .u8 (B (lob a)) 128 = B (hib a) := by
  have h : (128 : Int) = B 128 := rfl
  rw [h]
  unfold B
  rw [u8_or_nat _ _ (UInt8.toNat_lt _) (UInt8.toNat_lt _), ← UInt8.toNat_or, or128]
  congr 3
  unfold lob
  rw [UInt8.toNat_ofNat']; omega
theorem vput_step {a : UInt64} (h : 128 ≤ W a) : vput a.toNat = hib a :: vput (a / 128).toNat := by
  rw [vput_ge (by unfold W at h; omega), UInt64.toNat_div]; rfl
theorem vput_last {a : UInt64} (h : ¬ 128 ≤ W a) : vput a.toNat = [lob a] := vput_lt (by unfold W at h; omega)
theorem W_less {a : UInt64} (h : 128 ≤ W a) : (W (a / 128)).toNat < (W a).toNat := by
  rw [← W_div]; have := W_lo a; omega

attribute [local go_sem] W_div W_tdiv W_lob B_or128

set_option maxRecDepth 100000 in
set_option maxHeartbeats 400000 in
theorem put_c (base : Nat) (v : Value) (l : List UInt8) (n : UInt64) (w : World) (h : Ob w base v l) (hl : l.length ≤ 1000000000) (hb : base ≤ w.heap.size) :
    Calls Try.prog 104 #[v, .int .u64 (W n)] w fun e w' => ∃ u, e = .returned u ∧ Ob w' base u (l ++ vput n.toNat) ∧ Below base w w' := by
  have H := Lib.hid h
  have HL := Lib.hid hl
  clear h hl
  go_enter Try.func104, Try.ntmps104
  go_wp2
  go_loopw [0, 1] (fun u x wr => ∃ (a : UInt64) (d : List UInt8), x = .int .u64 (W a) ∧ Hid (Ob wr base u d) ∧ Hid (d ++ vput a.toNat = l ++ vput n.toNat) ∧ Below base w wr) (fun _ x _ => (intOf x).toNat)
  case atStart => exact ⟨n, l, rfl, H.out, rfl, Below.refl _ _⟩
  case round =>
    obtain ⟨a, d, rfl, HO, HE, hbw⟩ := hrel
    have HD : Hid (d.length ≤ 1000000010) := by
      have h1 := congrArg List.length HE.out
      have h2 := vput_len n.toNat_lt
      have h3 := HL.out
      simp only [List.length_append] at h1
      exact Lib.hid (by omega)
    have HB : Hid (base ≤ wr.heap.size) := Lib.hid (Nat.le_trans hb hbw.size)
    by_cases hc : 128 ≤ W a
    · go_wp2_with (at_builtin; refine wpList_app _ rfl _ _ _ rfl base 5 _ 1 1 Try.underlying33 info_u8 rfl (by omega) _ d.length (d.map bv) rfl (own_below HO.out ((Below.refl _ _).alloc (Nat.le_refl _) _)) (.slice (some ⟨wr.heap.size, 0, none⟩) 1 1) 1 ([hib a].map bv) rfl (Sl.new wr _ _ (by simp)) (bvs_one _) (by have := HD.out; omega) (by have := HD.out; simp only [maxLen]; omega) (by have := HB.out; simp; omega) ?_; intro v3 w3 ho3 hg3 hat3)
      go_roundw
      case rel => exact ⟨a / 128, d ++ [hib a], rfl, by simpa [Hid, Ob] using ho3, by unfold Hid; rw [← HE.out, vput_step hc]; simp, (hbw.alloc HB.out _).grown hg3 (by have := HB.out; simp; omega) (own_ge HO.out)⟩
      case measure => exact W_less hc
    · go_wp2_with (at_builtin; refine wpList_app _ rfl _ _ _ rfl base 5 _ 1 1 Try.underlying33 info_u8 rfl (by omega) _ d.length (d.map bv) rfl (own_below HO.out ((Below.refl _ _).alloc (Nat.le_refl _) _)) (.slice (some ⟨wr.heap.size, 0, none⟩) 1 1) 1 ([lob a].map bv) rfl (Sl.new wr _ _ (by simp)) (bvs_one _) (by have := HD.out; omega) (by have := HD.out; simp only [maxLen]; omega) (by have := HB.out; simp; omega) ?_; intro v3 w3 ho3 hg3 hat3)
      go_ret
      exact ⟨_, rfl, by rw [← HE.out, vput_last (by omega : ¬ 128 ≤ W a)]; simpa [Ob] using ho3, (hbw.alloc HB.out _).grown hg3 (by have := HB.out; simp; omega) (own_ge HO.out)⟩

theorem Put_c (n : UInt64) (w : World) : Calls Try.prog 80 #[.int .u64 (W n)] w (RetB w (vput n.toNat)) := by
  go_enter Try.func80, Try.ntmps80
  go_wp2_with (go_at_call 104; refine (put_c w.heap.size _ [] n _ (Ob.nil _ _) (by simp) (Nat.le_refl _)).mono ?_; rintro e w1 ⟨u1, rfl, ho1, hb1⟩)
  go_ret
  exact ⟨_, rfl, by simpa using ho1, hb1⟩

theorem W_rem (a : UInt64) : Int.tmod (W a) (128 : Int) = (a.toNat % 128 : Nat) := by
  rw [Int.tmod_eq_emod_of_nonneg (W_lo a)]; unfold W; omega
theorem W_wrap (a : UInt64) : IntKind.u64.wrap (W a) = W a := by
  have h1 := W_lo a
  have h2 := W_hi a
  simp [IntKind.wrap, IntKind.bits, IntKind.signed]
  omega
attribute [local go_sem] W_wrap
theorem hib_spell (a : UInt64) : (128 : Int) + W a % 128 = B (hib a) := by
  unfold B hib W; rw [UInt8.toNat_ofNat']; omega
theorem lob_spell {a : UInt64} (h : ¬ 128 ≤ W a) : W a = B (lob a) := by
  rw [← W_lob]; have := W_lo a; omega

set_option maxRecDepth 100000 in
set_option maxHeartbeats 400000 in
theorem rput_c (n : UInt64) (w : World) : Calls Try.prog 83 #[.int .u64 (W n)] w (RetB w (vput n.toNat)) := by
  go_enter Try.func83, Try.ntmps83
  go_wp2
  go_loopw [0, 3] (fun x u wr => ∃ (a : UInt64) (d : List UInt8), x = .int .u64 (W a) ∧ Hid (Ob wr w.heap.size u d) ∧ Hid (d ++ vput a.toNat = vput n.toNat) ∧ Below w.heap.size w wr) (fun x _ _ => (intOf x).toNat)
  case atStart => exact ⟨n, [], rfl, by simpa [Hid, Ob] using own_new w #[] _ 0 1 _ (Nat.le_refl _) rfl (by omega), rfl, (Below.refl _ _).alloc (Nat.le_refl _) _⟩
  case round =>
    obtain ⟨a, d, rfl, HO, HE, hbw⟩ := hrel
    have HD : Hid (d.length ≤ 1000000010) := by
      have h1 := congrArg List.length HE.out
      have h2 := vput_len n.toNat_lt
      simp only [List.length_append] at h1
      exact Lib.hid (by omega)
    have HB : Hid (w.heap.size ≤ wr.heap.size) := Lib.hid hbw.size
    have hlo := W_lo a
    by_cases hc : 128 ≤ W a
    · go_wp2_with (at_builtin; refine wpList_app _ rfl _ _ _ rfl w.heap.size 5 _ 1 1 Try.underlying33 info_u8 rfl (by omega) _ d.length (d.map bv) rfl (own_below HO.out ((Below.refl _ _).alloc (Nat.le_refl _) _)) (.slice (some ⟨wr.heap.size, 0, none⟩) 1 1) 1 [.int .u8 (128 + W a % 128)] rfl (Sl.new wr _ _ (by simp)) (by intro u hu; rw [List.mem_singleton.1 hu]; rfl) (by have := HD.out; omega) (by have := HD.out; simp only [maxLen]; omega) (by have := HB.out; simp; omega) ?_; intro v3 w3 ho3 hg3 hat3)
      go_roundw
      case rel => exact ⟨a / 128, d ++ [hib a], rfl, by simpa [Hid, Ob, bv, ← hib_spell] using ho3, by unfold Hid; rw [← HE.out, vput_step hc]; simp, (hbw.alloc HB.out _).grown hg3 (by have := HB.out; simp; omega) (own_ge HO.out)⟩
      case measure => exact W_less hc
    · go_wp2_with (at_builtin; refine wpList_app _ rfl _ _ _ rfl w.heap.size 5 _ 1 1 Try.underlying33 info_u8 rfl (by omega) _ d.length (d.map bv) rfl (own_below HO.out ((Below.refl _ _).alloc (Nat.le_refl _) _)) (.slice (some ⟨wr.heap.size, 0, none⟩) 1 1) 1 [.int .u8 (W a)] rfl (Sl.new wr _ _ (by simp)) (by intro u hu; rw [List.mem_singleton.1 hu]; rfl) (by have := HD.out; omega) (by have := HD.out; simp only [maxLen]; omega) (by have := HB.out; simp; omega) ?_; intro v3 w3 ho3 hg3 hat3)
      go_ret
      exact ⟨_, rfl, by rw [← HE.out, vput_last (by omega : ¬ 128 ≤ W a)]; simpa [Ob, bv, ← lob_spell (by omega : ¬ 128 ≤ W a)] using ho3, (hbw.alloc HB.out _).grown hg3 (by have := HB.out; simp; omega) (own_ge HO.out)⟩

theorem size_c (n : UInt64) (w : World) : Calls Try.prog 105 #[.int .u64 (W n)] w (RetV w (.int .i64 ((vput n.toNat).length : Int))) := by
  have hs := size_of_bits n.toNat n.toNat_lt
  have hbl : Lib.bitLen n.toNat ≤ 64 := (bitLenAux_eq 64 _ n.toNat_lt 64).2 n.toNat_lt
  obtain ⟨k, hk⟩ : ∃ k, Lib.bitLen n.toNat = k := ⟨_, rfl⟩
  rw [hk] at hs hbl
  rw [← hs]
  have HK := Lib.hid hk
  clear hs hk
  go_enter Try.func105, Try.ntmps105
  go_wp2_with (go_at_call 115; refine (len64_c n _).mono ?_; rintro e w1 ⟨rfl, rfl⟩; rw [HK.out])
  go_ret
  exact ⟨by show Ending.returned (Value.int .i64 _) = _; congr 2; omega, Below.refl _ _⟩
end Go.Proofs.Ytonllhjmoenckaa
