/- Walks through the reference of package crc: Seal, Open, Turn. -/
import Derived.Test.YtflhokgdkaophaaDoorCrcR
import Derived.Test.YtflhokgdkaophaaDoorCrcT
namespace Go.Proofs.YtflhokgdkaophaaDoor
open Go.RowKit
set_option linter.unusedVariables false
set_option linter.unusedSimpArgs false

def rsealF (l : List UInt8) : List UInt8 := l ++ tail4 (rsumF l)
def ropenF (l : List UInt8) : List UInt8 × Int :=
  if l.length < 4 then ([], 2) else if rsealF (l.take (l.length - 4)) = l then (l.take (l.length - 4), 0) else ([], 5)

theorem U_tmod256 (a : UInt32) : (U a).tmod (256 : Int) = B a.toUInt8 := by rw [Int.tmod_eq_emod_of_nonneg (U_lo a), U_b0]
theorem U_tdiv_8 (a : UInt32) : (U a).tdiv (256 : Int) % (4294967296 : Int) = U (a >>> 8) := by
  have h2 := U_lo (a >>> 8)
  have h3 := U_hi (a >>> 8)
  rw [Int.tdiv_eq_ediv_of_nonneg (U_lo a), U_shr8]
  omega
theorem U_tdiv_16 (a : UInt32) : (U a).tdiv (65536 : Int) % (4294967296 : Int) = U (a >>> 16) := by
  have h2 := U_lo (a >>> 16)
  have h3 := U_hi (a >>> 16)
  rw [Int.tdiv_eq_ediv_of_nonneg (U_lo a), U_shr16]
  omega
theorem U_tdiv_24 (a : UInt32) : (U a).tdiv (16777216 : Int) % (4294967296 : Int) = U (a >>> 24) := by
  have h2 := U_lo (a >>> 24)
  have h3 := U_hi (a >>> 24)
  rw [Int.tdiv_eq_ediv_of_nonneg (U_lo a), U_shr24]
  omega
theorem B_wrap (a : UInt8) : B a % (256 : Int) = B a := by have := B_lo a; have := B_hi a; omega

attribute [local go_sem] U_tmod256 U_tdiv_8 U_tdiv_16 U_tdiv_24 B_wrap U_b0
set_option maxRecDepth 100000 in
set_option maxHeartbeats 1000000 in
theorem rseal_c (v : Value) (l : List UInt8) (w : World) (h : Sb w v l) (hl : l.length ≤ 1000000000) :
    Calls Tryd.prog 14 #[v] w (RetB w (rsealF l)) := by
  have H := Lib.hid h
  clear h
  go_enter Tryd.func14, Tryd.ntmps14
  go_wp2_with fail
  refine (rsum_c v l _ H.out).mono ?_
  rintro e w1 ⟨rfl, hb1⟩
  go_wp2_with (first
    | (at_builtin; refine wpList_app _ rfl (.tmp 6) (.tmp 7) _ rfl w1.heap.size 5 _ 1 1 Tryd.underlying22 info_u8 rfl (by omega) (.slice (some ⟨w1.heap.size, 0, none⟩) 0 0) 0 [] rfl (own_new w1 #[] _ 0 1 _ (Nat.le_refl _) rfl (by omega)) _ l.length (l.map bv) rfl (Sl.alloc (H.out.below hb1) _) (bvs_one l) (by omega) (by simp only [maxLen]; omega) (by simp) ?_; intro v2 w2 hown2 hg2 hat2; have hb2 := ((Below.refl w1.heap.size w1).alloc (Nat.le_refl _) _).grown hg2 (by simp) (by simp [Value.ownBlock]))
    | (at_builtin; refine wpList_app _ rfl (.tmp 8) (.tmp 23) _ rfl w1.heap.size 5 _ 1 1 Tryd.underlying22 info_u8 rfl (by omega) v2 _ _ rfl (own_below hown2 ((Below.refl _ _).alloc (Nat.le_refl _) _)) (.slice (some ⟨w2.heap.size, 0, none⟩) 4 4) 4 ((tail4 (rsumF l)).map bv) rfl (Sl.new w2 _ _ (by simp)) (bvs_one _) (by omega) (by simp only [maxLen]; omega) (by have := hb2.size; simp; omega) ?_; intro v3 w3 hown3 hg3 hat3))
  go_ret
  have hb13 := (hb2.alloc hb2.size (Obj.cells #[.int .u8 (B (rsumF l).toUInt8), .int .u8 (B (rsumF l >>> 8).toUInt8), .int .u8 (B (rsumF l >>> 16).toUInt8), .int .u8 (B (rsumF l >>> 24).toUInt8)] 5)).grown hg3 (by have := hb2.size; simp; omega) fun k hk => own_ge hown2 k hk
  refine ⟨v3, rfl, ?_, gthen hb1 hb13⟩
  have := own_base hown3 hb1.size
  unfold Ob rsealF
  simpa [tail4, Nat.add_assoc] using this

set_option maxRecDepth 100000 in
set_option maxHeartbeats 1000000 in
theorem ropen_c (v : Value) (l : List UInt8) (w : World) (h : Sb w v l) (hl : l.length ≤ 1000000000) :
    Calls Tryd.prog 8 #[v] w (RetBE w (ropenF l).1 (ropenF l).2) := by
  obtain ⟨A, c, rfl, h1, h2⟩ := h.form
  have H := Lib.hid h
  clear h
  by_cases h4 : l.length < 4
  · have hf : ropenF l = ([], 2) := by simp [ropenF, h4]
    rw [hf]
    go_enter Tryd.func8, Tryd.ntmps8
    go_wp2
    go_ret2
    exact ⟨_, rfl, Ob.nil _ _, Below.refl _ _⟩
  · have hlt : (l.take (l.length - 4)).length = l.length - 4 := by rw [List.length_take]; omega
    have HL := Lib.hid hlt
    clear hlt
    by_cases he : rsealF (l.take (l.length - 4)) = l
    · have hf : ropenF l = (l.take (l.length - 4), 0) := by simp [ropenF, h4, he]
      have hd : decide (rsealF (l.take (l.length - 4)) = l) = true := by simpa using he
      rw [hf]
      clear hf he
      go_enter Tryd.func8, Tryd.ntmps8
      go_wp2_with fail
      refine (rseal_c _ _ _ (H.out.take (l.length - 4) (by omega)) (by rw [HL.out]; omega)).mono ?_
      rintro e w1 ⟨u1, rfl, ho1, hb1⟩
      go_wp2_with fail
      refine (same_c u1 _ _ l _ ho1.sb (H.out.below hb1)).mono ?_
      rintro e w2 ⟨rfl, hb2⟩
      have hb12 := gthen hb1 hb2
      have ht := Lib.hid ((H.out.below hb12).take (l.length - 4) (by omega))
      have hsl := Sl.alloc ht.out (.cells #[] 5)
      rw [HL.out] at hsl
      have HS := Lib.hid hsl
      clear hsl
      go_wp2_with (at_builtin; refine wpList_app _ rfl (.tmp 16) (.tmp 21) _ rfl w2.heap.size 5 _ 1 1 Tryd.underlying22 info_u8 rfl (by omega) (.slice (some ⟨w2.heap.size, 0, none⟩) 0 0) 0 [] rfl (own_new w2 #[] _ 0 1 _ (Nat.le_refl _) rfl (by omega)) _ (l.length - 4) ((l.take (l.length - 4)).map bv) rfl HS.out (bvs_one _) (by omega) (by simp only [maxLen]; omega) (by simp) ?_; intro v3 w3 hown3 hg3 hat3; have hb3 := ((Below.refl w2.heap.size w2).alloc (Nat.le_refl _) _).grown hg3 (by simp) (by simp [Value.ownBlock]))
      go_ret2
      refine ⟨_, rfl, ?_, gthen hb12 hb3⟩
      have h0 := own_base hown3 hb12.size
      unfold Ob
      rw [HL.out]
      simpa using h0
    · have hf : ropenF l = ([], 5) := by simp [ropenF, h4, he]
      have hd : decide (rsealF (l.take (l.length - 4)) = l) = false := by simpa using he
      rw [hf]
      clear hf he
      go_enter Tryd.func8, Tryd.ntmps8
      go_wp2_with fail
      refine (rseal_c _ _ _ (H.out.take (l.length - 4) (by omega)) (by rw [HL.out]; omega)).mono ?_
      rintro e w1 ⟨u1, rfl, ho1, hb1⟩
      go_wp2_with fail
      refine (same_c u1 _ _ l _ ho1.sb (H.out.below hb1)).mono ?_
      rintro e w2 ⟨rfl, hb2⟩
      go_wp2_with fail
      go_ret2
      exact ⟨_, rfl, Ob.nil _ _, gthen hb1 hb2⟩
end Go.Proofs.YtflhokgdkaophaaDoor
