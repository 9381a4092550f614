/- Walks through package crc: Sum, Seal, Open. -/
import Derived.Test.YtonllhjmoenckaaDoorCrcW
import Derived.Test.YtonllhjmoenckaaDoorSl
namespace Go.Proofs.YtonllhjmoenckaaDoor
open Go.RowKit
set_option linter.unusedVariables false
set_option linter.unusedSimpArgs false

theorem more_c (s : UInt32) (v : Value) (l : List UInt8) (w : World) (ht : Tab w) (h : Sb w v l) :
    Calls Tryd.prog 84 #[.int .u32 (U s), v] w (RetV w (.int .u32 (U (moreF s l)))) := by
  obtain ⟨A, c, rfl, h1, h2⟩ := h.form
  exact (more_walk s A c l w ht h).mono fun e w' ⟨he, hw⟩ => ⟨he, hw ▸ Below.refl _ _⟩

set_option maxHeartbeats 400000 in
theorem sum_c (v : Value) (l : List UInt8) (w : World) (ht : Tab w) (h : Sb w v l) :
    Calls Tryd.prog 63 #[v] w (RetV w (.int .u32 (U (sumF l)))) := by
  have H := Lib.hid h
  have HT := Lib.hid ht
  clear h ht
  go_enter Tryd.func63, Tryd.ntmps63
  go_wp2_with (go_at_call 84; refine (more_c 0 v l _ HT.out H.out).mono ?_; rintro e w1 ⟨rfl, hb⟩)
  go_ret
  exact ⟨rfl, hb⟩
attribute [local go_sem] U_b0 U_b1 U_b2 U_b3
set_option maxHeartbeats 400000 in
theorem seal_c (v : Value) (l : List UInt8) (w : World) (ht : Tab w) (h : Sb w v l) (hl : l.length ≤ 1000000000) :
    Calls Tryd.prog 36 #[v] w (RetB w (sealF l)) := by
  have H := Lib.hid h
  have HT := Lib.hid ht
  clear h ht
  go_enter Tryd.func36, Tryd.ntmps36
  go_wp2_with (first
    | (go_at_call 63; refine (sum_c v l _ HT.out H.out).mono ?_; rintro e w1 ⟨rfl, hb1⟩)
    | (go_at_call 41; refine (clone_c v l _ (H.out.below hb1) (by omega)).mono ?_; rintro e w2 ⟨u, rfl, ho2, hb2⟩)
    | (at_builtin; refine wpList_app _ rfl _ _ _ rfl w1.heap.size 5 _ 1 1 Tryd.underlying22 info_u8 rfl (by omega) u l.length (l.map bv) rfl (own_below ho2 ((Below.refl _ _).alloc (Nat.le_refl _) _)) (.slice (some ⟨w2.heap.size, 0, none⟩) 4 4) 4 ((tail4 (sumF l)).map bv) rfl (Sl.new w2 _ _ (by simp)) (bvs_one _) (by omega) (by simp only [maxLen]; omega) (by have := hb2.size; simp; omega) ?_; intro v3 w3 ho3 hg3 hat3))
  go_ret
  have hb12 := below_then hb1 hb1.size hb2
  refine ⟨v3, rfl, by simpa [Ob, sealF, tail4] using own_base ho3 hb1.size, (hb12.alloc hb12.size _).grown hg3 (by have := hb12.size; simp; omega) fun k hk => Nat.le_trans hb1.size (own_ge ho2 k hk)⟩

set_option maxHeartbeats 400000 in
theorem open_c (v : Value) (l : List UInt8) (w : World) (ht : Tab w) (h : Sb w v l) (hl : l.length ≤ 1000000000) :
    Calls Tryd.prog 40 #[v] w (RetBE w (openF l).1 (openF l).2) := by
  obtain ⟨A, c, rfl, h1, h2⟩ := h.form
  have H := Lib.hid h
  have HT := Lib.hid ht
  clear h ht
  by_cases h4 : l.length < 4
  · have hf : openF l = ([], 2) := by simp [openF, h4]
    rw [hf]
    go_enter Tryd.func40, Tryd.ntmps40
    go_wp2
    go_ret2
    exact ⟨_, rfl, Ob.nil _ _, Below.refl _ _⟩
  · have hlt : (l.take (l.length - 4)).length = l.length - 4 := by rw [List.length_take]; omega
    have HL := Lib.hid hlt
    clear hlt
    by_cases he : sealF (l.take (l.length - 4)) = l
    · have hf : openF l = (l.take (l.length - 4), 0) := by simp [openF, h4, he]
      have hd : decide (sealF (l.take (l.length - 4)) = l) = true := by simpa using he
      rw [hf]
      clear hf he
      go_enter Tryd.func40, Tryd.ntmps40
      go_wp2_with (first
        | (go_at_call 36; refine (seal_c _ _ _ HT.out (H.out.take (l.length - 4) (by omega)) (by rw [HL.out]; omega)).mono ?_; rintro e w1 ⟨u1, rfl, ho1, hb1⟩)
        | (go_at_call 66; refine (equal_c u1 _ _ l _ ho1.sb (H.out.below hb1)).mono ?_; rintro e w2 ⟨rfl, hb2⟩)
        | (go_at_call 41; refine (clone_c _ _ _ (((H.out.take (l.length - 4) (by omega)).below hb1).below hb2) (by rw [HL.out]; omega)).mono ?_; rintro e w3 ⟨u3, rfl, ho3, hb3⟩))
      go_ret2
      have hb12 := below_then hb1 hb1.size hb2
      exact ⟨_, rfl, ho3.to hb12.size, below_then hb12 hb12.size hb3⟩
    · have hf : openF l = ([], 5) := by simp [openF, h4, he]
      have hd : decide (sealF (l.take (l.length - 4)) = l) = false := by simpa using he
      rw [hf]
      clear hf he
      go_enter Tryd.func40, Tryd.ntmps40
      go_wp2_with (first
        | (go_at_call 36; refine (seal_c _ _ _ HT.out (H.out.take (l.length - 4) (by omega)) (by rw [HL.out]; omega)).mono ?_; rintro e w1 ⟨u1, rfl, ho1, hb1⟩)
        | (go_at_call 66; refine (equal_c u1 _ _ l _ ho1.sb (H.out.below hb1)).mono ?_; rintro e w2 ⟨rfl, hb2⟩))
      go_ret2
      have hb12 := below_then hb1 hb1.size hb2
      exact ⟨_, rfl, Ob.nil _ _, hb12⟩
end Go.Proofs.YtonllhjmoenckaaDoor
