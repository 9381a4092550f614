/- Walk through the law's awake(). -/
import Derived.Test.YtflhokgdkaophaaDoorCrcT
import Derived.Test.YtflhokgdkaophaaDoorGrow
import Derived.Lib.SlBytesConst
namespace Go.Proofs.YtflhokgdkaophaaDoor
open Go.RowKit
set_option linter.unusedVariables false
set_option linter.unusedSimpArgs false

attribute [local go_sem] Gv

theorem Tab.below {w w' : World} (h : Tab w) (hb : Below w.heap.size w w') : Tab w' := fun i hi => by
  have h0 := h i hi
  exact (hb.cell (World.block_lt_of_cell? w _ h0)).trans h0

theorem B_lit (n : Nat) (b : UInt8) (h : n = b.toNat) : (n : Int) = B b := by rw [h]; rfl

set_option maxRecDepth 100000 in
set_option maxHeartbeats 1000000 in
theorem awake_c (w : World) (ht : Tab w) : Calls Tryd.prog 6 #[] w (RetV w (.bool true)) := by
  have HT := Lib.hid ht
  clear ht
  go_enter Tryd.func6, Tryd.ntmps6
  have kc := fun (w : World) (C : Array Value) (n c : Nat) => Lib.run_convert_bytes_const (P := Tryd.prog) w 22 5 C n c Tryd.underlying22 Tryd.underlying5
  go_wp2_with fail
  clear kc
  generalize hW : w.alloc (Obj.cells #[Value.int .u8 49, .int .u8 50, .int .u8 51, .int .u8 52, .int .u8 53, .int .u8 54, .int .u8 55, .int .u8 56, .int .u8 57] 5 (9, 10)) = W1
  have hb0 : Below w.heap.size w W1 := hW ▸ (Below.refl _ _).alloc (Nat.le_refl _) _
  have hv : Sb W1 (.slice (some ⟨w.heap.size, 0, none⟩) 9 9) [49, 50, 51, 52, 53, 54, 55, 56, 57] := hW ▸ Sb.new w _ _ _ rfl (by decide) 9 rfl _
  clear hW
  refine (seal_c _ _ _ (HT.out.below hb0) hv (by decide)).mono ?_
  rintro e w1 ⟨u1, rfl, ho1, hb1⟩
  rw [show sealF [49, 50, 51, 52, 53, 54, 55, 56, 57] = [49, 50, 51, 52, 53, 54, 55, 56, 57, 131, 146, 6, 227] from by decide +kernel] at ho1
  obtain ⟨A1, c1, rfl, g1, g2⟩ := ho1.sb.form
  go_wp2_with fail
  refine (open_c _ _ _ ((HT.out.below hb0).below hb1) ho1.sb (by decide)).mono ?_
  rw [show openF [49, 50, 51, 52, 53, 54, 55, 56, 57, 131, 146, 6, 227] = ([49, 50, 51, 52, 53, 54, 55, 56, 57], 0) from by decide +kernel]
  rintro e w2 ⟨u2, rfl, ho2, hb2⟩
  obtain ⟨A2, c2, rfl, k1, k2⟩ := ho2.sb.form
  go_wp2_with fail
  generalize hW : w2.alloc (Obj.cells #[Value.int .u8 1, .int .u8 2, .int .u8 3] 5 ) = W2
  have hb3 : Below w2.heap.size w2 W2 := hW ▸ (Below.refl _ _).alloc (Nat.le_refl _) _
  have hv3 : Sb W2 (.slice (some ⟨w2.heap.size, 0, none⟩) 3 3) [1, 2, 3] := hW ▸ Sb.new w2 _ _ _ rfl (by decide) 3 rfl
  clear hW
  have t2 := (((HT.out.below hb0).below hb1).below hb2).below hb3
  refine (open_c _ _ _ t2 hv3 (by decide)).mono ?_
  rw [show openF [1, 2, 3] = ([], 2) from by decide +kernel]
  rintro e w4 ⟨u4, rfl, ho4, hb4⟩
  obtain ⟨A4, c4, rfl, k3, k4⟩ := ho4.sb.form
  have HT4 := Lib.hid (t2.below hb4)
  clear t2
  have s4 := ((ho1.sb.below hb2).below hb3).below hb4
  have r4 := (ho2.sb.below hb3).below hb4
  have v4 := (((hv.below hb1).below hb2).below hb3).below hb4
  have hb04 := below_then (below_then (below_then (below_then hb0 hb0.size hb1) (Nat.le_trans hb0.size hb1.size) hb2) (Nat.le_trans hb0.size (Nat.le_trans hb1.size hb2.size)) hb3) (Nat.le_trans hb0.size (Nat.le_trans hb1.size (Nat.le_trans hb2.size hb3.size))) hb4
  clear hb0 hb1 hb2 hb3 hb4 hv ho1 ho2 hv3
  go_wp2_with fail
  have hm1 : (1 : Int) = U 1 := rfl
  refine (turn_c _ _ 100 1 _ s4 (by decide) (by decide) (by decide)).mono ?_
  rw [show turnF 100 1 [49, 50, 51, 52, 53, 54, 55, 56, 57, 131, 146, 6, 227] = [49, 50, 51, 52, 53, 54, 55, 56, 57, 131, 146, 6, 243] from by decide +kernel]
  rintro e w5 ⟨u5, rfl, ho5, hb5⟩
  go_wp2_with fail
  refine (open_c _ _ _ (HT4.out.below hb5) ho5.sb (by decide)).mono ?_
  rw [show openF [49, 50, 51, 52, 53, 54, 55, 56, 57, 131, 146, 6, 243] = ([], 5) from by decide +kernel]
  rintro e w6 ⟨u6, rfl, ho6, hb6⟩
  have HT6 := Lib.hid ((HT4.out.below hb5).below hb6)
  have s6 := (s4.below hb5).below hb6
  have r6 := (r4.below hb5).below hb6
  have v6 := (v4.below hb5).below hb6
  have hb06 := below_then (below_then hb04 hb04.size hb5) (Nat.le_trans hb04.size hb5.size) hb6
  clear hb04 hb5 hb6 s4 r4 v4 ho5 ho6 ho4
  clear HT4 hm1
  go_wp2_with fail
  have hs1 : U (sumF [49, 50, 51, 52, 53, 54, 55, 56, 57]) = 3808858755 := by decide +kernel
  have hs2 : U (sumF []) = 0 := by decide +kernel
  have hs3 : U (moreF (sumF [49, 50, 51, 52]) [53, 54, 55, 56, 57]) = 3808858755 := by decide +kernel
  have g13 : 13 ≤ c1 := g1
  refine wp_region_gr' (by kernel_rfl) (by kernel_rfl) ?_
  intro ops hop
  --REGION
  repeat
    apply wpG_det
    exact fun _ => by rw [hop.out]; rfl
    intro us w' hE hH
    go_simp
    exact ⟨Gr.refl _, rfl⟩
    intro us
    go_simp
    exact rfl
  apply wpG_det (v := Value.int .u32 3808858755)
  exact fun _ => by rw [hop.out]; rfl
  · intro us w' hE hH
    go_simp
    refine (sum_c _ _ w' (HT6.out.below hE) (v6.below hE)).mono ?_
    rintro e w'' ⟨rfl, hb⟩
    exact ⟨_, rfl, hb, by rw [hs1]⟩
  intro us
  go_simp
  exact rfl
  repeat
    apply wpG_det
    exact fun _ => by rw [hop.out]; rfl
    intro us w' hE hH
    go_simp
    exact ⟨Gr.refl _, rfl⟩
    intro us
    go_simp
    exact rfl
  apply wpG_det (v := Value.int .u32 0)
  exact fun _ => by rw [hop.out]; rfl
  · intro us w' hE hH
    go_simp
    refine (sum_c _ [] w' (HT6.out.below hE) (Sl.none_ 1 0 (by decide))).mono ?_
    rintro e w'' ⟨rfl, hb⟩
    exact ⟨_, rfl, hb, by rw [hs2]⟩
  intro us
  go_simp
  exact rfl
  repeat
    apply wpG_det
    exact fun _ => by rw [hop.out]; rfl
    intro us w' hE hH
    go_simp
    exact ⟨Gr.refl _, rfl⟩
    intro us
    go_simp
    exact rfl
  apply wpG_det (v := Value.int .u32 (U (sumF [49, 50, 51, 52])))
  exact fun _ => by rw [hop.out]; rfl
  · intro us w' hE hH
    go_simp
    refine (sum_c _ [49, 50, 51, 52] w' (HT6.out.below hE) (Sb.take (l := [49, 50, 51, 52, 53, 54, 55, 56, 57]) (v6.below hE) 4 (by decide))).mono ?_
    rintro e w'' ⟨rfl, hb⟩
    exact ⟨_, rfl, hb, rfl⟩
  intro us
  go_simp
  exact rfl
  repeat
    apply wpG_det
    exact fun _ => by rw [hop.out]; rfl
    intro us w' hE hH
    go_simp
    exact ⟨Gr.refl _, rfl⟩
    intro us
    go_simp
    exact rfl
  apply wpG_det (v := Value.int .u32 3808858755)
  exact fun _ => by rw [hop.out]; rfl
  · intro us w' hE hH
    go_simp
    refine (more_c _ _ [53, 54, 55, 56, 57] w' (HT6.out.below hE) (by have h0 := Sb.drop (l := [49, 50, 51, 52, 53, 54, 55, 56, 57]) (v6.below hE) 4 (by decide); exact h0)).mono ?_
    rintro e w'' ⟨rfl, hb⟩
    exact ⟨_, rfl, hb, by rw [hs3]⟩
  intro us
  go_simp
  exact rfl
  repeat
    apply wpG_det
    exact fun _ => by rw [hop.out]; rfl
    intro us w' hE hH
    go_simp
    exact ⟨Gr.refl _, rfl⟩
    intro us
    go_simp
    exact rfl
  apply wpG_sat (fun u w => Sb w u [131, 146, 6, 227]) (fun _ _ _ h hb => h.below hb)
  exact fun _ => by rw [hop.out]; rfl
  · intro us w' hE hH
    go_simp
    exact ⟨(Below.refl _ _).alloc (Nat.le_refl _) _, Sb.new w' _ _ _ rfl (by decide) 4 rfl⟩
  intro us
  go_simp
  exact rfl
  repeat
    apply wpG_det
    exact fun _ => by rw [hop.out]; rfl
    intro us w' hE hH
    go_simp
    exact ⟨Gr.refl _, rfl⟩
    intro us
    go_simp
    exact rfl
  apply wpG_det (v := Value.bool true)
  exact fun _ => by rw [hop.out]; rfl
  · intro us w' hE hH
    go_simp
    refine (same_c _ _ [131, 146, 6, 227] [131, 146, 6, 227] w' (Sb.drop (l := [49, 50, 51, 52, 53, 54, 55, 56, 57, 131, 146, 6, 227]) (s6.below hE) 9 (by decide)) (hH.1 rfl)).mono ?_
    rintro e w'' ⟨rfl, hb⟩
    exact ⟨_, rfl, hb, rfl⟩
  intro us
  go_simp
  exact rfl
  repeat
    apply wpG_det
    exact fun _ => by rw [hop.out]; rfl
    intro us w' hE hH
    go_simp
    exact ⟨Gr.refl _, rfl⟩
    intro us
    go_simp
    exact rfl
  apply wpG_det (v := Value.bool true)
  exact fun _ => by rw [hop.out]; rfl
  · intro us w' hE hH
    go_simp
    refine (same_c _ _ [49, 50, 51, 52, 53, 54, 55, 56, 57] [49, 50, 51, 52, 53, 54, 55, 56, 57] w' (r6.below hE) (v6.below hE)).mono ?_
    rintro e w'' ⟨rfl, hb⟩
    exact ⟨_, rfl, hb, rfl⟩
  intro us
  go_simp
  exact rfl
  repeat
    apply wpG_det
    exact fun _ => by rw [hop.out]; rfl
    intro us w' hE hH
    go_simp
    exact ⟨Gr.refl _, rfl⟩
    intro us
    go_simp
    exact rfl
  apply wpG_sat (fun u w => Sb w u [0, 0]) (fun _ _ _ h hb => h.below hb)
  exact fun _ => by rw [hop.out]; rfl
  · intro us w' hE hH
    go_simp
    exact ⟨(Below.refl _ _).alloc (Nat.le_refl _) _, Sb.new w' _ _ _ rfl (by decide) 2 rfl⟩
  intro us
  go_simp
  exact rfl
  repeat
    apply wpG_det
    exact fun _ => by rw [hop.out]; rfl
    intro us w' hE hH
    go_simp
    exact ⟨Gr.refl _, rfl⟩
    intro us
    go_simp
    exact rfl
  apply wpG_sat (fun u w => Sb w u [128, 1]) (fun _ _ _ h hb => h.below hb)
  exact fun _ => by rw [hop.out]; rfl
  · intro us w' hE hH
    go_simp
    refine (turn_c _ [0, 0] 7 3 w' (hH.1 rfl) (by decide) (by decide) (by decide)).mono ?_
    rintro e w'' ⟨u, rfl, ho, hb⟩
    exact ⟨u, rfl, hb, by have h0 := ho.sb; rwa [show turnF 7 3 [0, 0] = [128, 1] from by decide +kernel] at h0⟩
  intro us
  go_simp
  exact rfl
  repeat
    apply wpG_det
    exact fun _ => by rw [hop.out]; rfl
    intro us w' hE hH
    go_simp
    exact ⟨Gr.refl _, rfl⟩
    intro us
    go_simp
    exact rfl
  apply wpG_sat (fun u w => Sb w u [128, 1]) (fun _ _ _ h hb => h.below hb)
  exact fun _ => by rw [hop.out]; rfl
  · intro us w' hE hH
    go_simp
    exact ⟨(Below.refl _ _).alloc (Nat.le_refl _) _, Sb.new w' _ _ _ rfl (by decide) 2 rfl⟩
  intro us
  go_simp
  exact rfl
  repeat
    apply wpG_det
    exact fun _ => by rw [hop.out]; rfl
    intro us w' hE hH
    go_simp
    exact ⟨Gr.refl _, rfl⟩
    intro us
    go_simp
    exact rfl
  apply wpG_det (v := Value.bool true)
  exact fun _ => by rw [hop.out]; rfl
  · intro us w' hE hH
    go_simp
    refine (same_c _ _ [128, 1] [128, 1] w' (hH.2.1 rfl) (hH.1 rfl)).mono ?_
    rintro e w'' ⟨rfl, hb⟩
    exact ⟨_, rfl, hb, rfl⟩
  intro us
  go_simp
  exact rfl
  repeat
    apply wpG_det
    exact fun _ => by rw [hop.out]; rfl
    intro us w' hE hH
    go_simp
    exact ⟨Gr.refl _, rfl⟩
    intro us
    go_simp
    exact rfl
  apply wpG_sat (fun u w => Sb w u [0]) (fun _ _ _ h hb => h.below hb)
  exact fun _ => by rw [hop.out]; rfl
  · intro us w' hE hH
    go_simp
    exact ⟨(Below.refl _ _).alloc (Nat.le_refl _) _, Sb.new w' _ _ _ rfl (by decide) 1 rfl⟩
  intro us
  go_simp
  exact rfl
  repeat
    apply wpG_det
    exact fun _ => by rw [hop.out]; rfl
    intro us w' hE hH
    go_simp
    exact ⟨Gr.refl _, rfl⟩
    intro us
    go_simp
    exact rfl
  apply wpG_sat (fun u w => Sb w u [3]) (fun _ _ _ h hb => h.below hb)
  exact fun _ => by rw [hop.out]; rfl
  · intro us w' hE hH
    go_simp
    refine (turn_c _ [0] (-1) 7 w' (hH.1 rfl) (by decide) (by decide) (by decide)).mono ?_
    rintro e w'' ⟨u, rfl, ho, hb⟩
    exact ⟨u, rfl, hb, by have h0 := ho.sb; rwa [show turnF (-1) 7 [0] = [3] from by decide +kernel] at h0⟩
  intro us
  go_simp
  exact rfl
  repeat
    apply wpG_det
    exact fun _ => by rw [hop.out]; rfl
    intro us w' hE hH
    go_simp
    exact ⟨Gr.refl _, rfl⟩
    intro us
    go_simp
    exact rfl
  apply wpG_sat (fun u w => Sb w u [3]) (fun _ _ _ h hb => h.below hb)
  exact fun _ => by rw [hop.out]; rfl
  · intro us w' hE hH
    go_simp
    exact ⟨(Below.refl _ _).alloc (Nat.le_refl _) _, Sb.new w' _ _ _ rfl (by decide) 1 rfl⟩
  intro us
  go_simp
  exact rfl
  repeat
    apply wpG_det
    exact fun _ => by rw [hop.out]; rfl
    intro us w' hE hH
    go_simp
    exact ⟨Gr.refl _, rfl⟩
    intro us
    go_simp
    exact rfl
  apply wpG_det (v := Value.bool true)
  exact fun _ => by rw [hop.out]; rfl
  · intro us w' hE hH
    go_simp
    refine (same_c _ _ [3] [3] w' (hH.2.1 rfl) (hH.1 rfl)).mono ?_
    rintro e w'' ⟨rfl, hb⟩
    exact ⟨_, rfl, hb, rfl⟩
  intro us
  go_simp
  exact rfl
  repeat
    apply wpG_det
    exact fun _ => by rw [hop.out]; rfl
    intro us w' hE hH
    go_simp
    exact ⟨Gr.refl _, rfl⟩
    intro us
    go_simp
    exact rfl
  apply wpG_sat (fun u w => Sb w u [0]) (fun _ _ _ h hb => h.below hb)
  exact fun _ => by rw [hop.out]; rfl
  · intro us w' hE hH
    go_simp
    exact ⟨(Below.refl _ _).alloc (Nat.le_refl _) _, Sb.new w' _ _ _ rfl (by decide) 1 rfl⟩
  intro us
  go_simp
  exact rfl
  repeat
    apply wpG_det
    exact fun _ => by rw [hop.out]; rfl
    intro us w' hE hH
    go_simp
    exact ⟨Gr.refl _, rfl⟩
    intro us
    go_simp
    exact rfl
  apply wpG_sat (fun u w => Sb w u [0]) (fun _ _ _ h hb => h.below hb)
  exact fun _ => by rw [hop.out]; rfl
  · intro us w' hE hH
    go_simp
    refine (turn_c _ [0] 9223372036854775807 7 w' (hH.1 rfl) (by decide) (by decide) (by decide)).mono ?_
    rintro e w'' ⟨u, rfl, ho, hb⟩
    exact ⟨u, rfl, hb, by have h0 := ho.sb; rwa [show turnF 9223372036854775807 7 [0] = [0] from by decide +kernel] at h0⟩
  intro us
  go_simp
  exact rfl
  repeat
    apply wpG_det
    exact fun _ => by rw [hop.out]; rfl
    intro us w' hE hH
    go_simp
    exact ⟨Gr.refl _, rfl⟩
    intro us
    go_simp
    exact rfl
  apply wpG_sat (fun u w => Sb w u [0]) (fun _ _ _ h hb => h.below hb)
  exact fun _ => by rw [hop.out]; rfl
  · intro us w' hE hH
    go_simp
    exact ⟨(Below.refl _ _).alloc (Nat.le_refl _) _, Sb.new w' _ _ _ rfl (by decide) 1 rfl⟩
  intro us
  go_simp
  exact rfl
  repeat
    apply wpG_det
    exact fun _ => by rw [hop.out]; rfl
    intro us w' hE hH
    go_simp
    exact ⟨Gr.refl _, rfl⟩
    intro us
    go_simp
    exact rfl
  apply wpG_det (v := Value.bool true)
  exact fun _ => by rw [hop.out]; rfl
  · intro us w' hE hH
    go_simp
    refine (same_c _ _ [0] [0] w' (hH.2.1 rfl) (hH.1 rfl)).mono ?_
    rintro e w'' ⟨rfl, hb⟩
    exact ⟨_, rfl, hb, rfl⟩
  intro us
  go_simp
  exact rfl
  repeat
    apply wpG_det
    exact fun _ => by rw [hop.out]; rfl
    intro us w' hE hH
    go_simp
    exact ⟨Gr.refl _, rfl⟩
    intro us
    go_simp
    exact rfl
  intro us w' hE _
  clear hop
  go_wp2_with fail
  go_ret
  exact ⟨rfl, below_then hb06 hb06.size hE⟩
end Go.Proofs.YtflhokgdkaophaaDoor
