/- Walks: Zig and Zag, both sides. -/
import Derived.Test.YtonllhjmoenckaaVintW
namespace Go.Proofs.Ytonllhjmoenckaa
section
open Go.RowKit
set_option linter.unusedVariables false
set_option linter.unusedSimpArgs false

theorem xor_u64_0 (a : Nat) (h : a < 18446744073709551616) : bits .xor .u64 (a : Int) 0 = a := by
  rw [show (0 : Int) = ((0 : Nat) : Int) from rfl, u64_xor_nat a 0 h (by decide), Nat.xor_zero]
theorem xor_u64_1 (a : Nat) (h : a < 18446744073709551616) : bits .xor .u64 (a : Int) 18446744073709551615 = 18446744073709551615 - a := by
  have e : (18446744073709551615 : Int) = ((18446744073709551615 : Nat) : Int) := rfl
  show IntKind.u64.wrap ((BitVec.ofInt 64 (a : Int) ^^^ BitVec.ofInt 64 18446744073709551615).toNat : Int) = _
  rw [show BitVec.ofInt 64 18446744073709551615 = BitVec.allOnes 64 from by decide, BitVec.xor_allOnes, BitVec.toNat_not, ofInt_u64 a h, IntKind.wrap_u64]
  omega
theorem xor_i64_0 (a : Nat) (h : a < 9223372036854775808) : bits .xor .i64 (a : Int) 0 = a := by
  show IntKind.i64.wrap ((BitVec.ofInt 64 (a : Int) ^^^ BitVec.ofInt 64 0).toNat : Int) = _
  rw [show BitVec.ofInt 64 0 = 0#64 from by decide, BitVec.xor_zero, ofInt_u64 a (by omega), IntKind.wrap_i64]
  omega
theorem xor_i64_1 (a : Nat) (h : a < 9223372036854775808) : bits .xor .i64 (a : Int) (-1) = -1 - a := by
  show IntKind.i64.wrap ((BitVec.ofInt 64 (a : Int) ^^^ BitVec.ofInt 64 (-1)).toNat : Int) = _
  rw [show BitVec.ofInt 64 (-1) = BitVec.allOnes 64 from by decide, BitVec.xor_allOnes, BitVec.toNat_not, ofInt_u64 a (by omega), IntKind.wrap_i64]
  omega
theorem and_u64_1 (a : Nat) (h : a < 18446744073709551616) : bits .and .u64 (a : Int) 1 = ((a % 2 : Nat) : Int) := by
  rw [show (1 : Int) = ((1 : Nat) : Int) from rfl, u64_and_nat a 1 h (by decide), Nat.and_one_is_mod]

theorem zig_pos {m : Int} (h : 0 ≤ m) (h2 : m < 9223372036854775808) : W (zigF m) = 2 * m := by
  unfold W zigF; rw [if_pos h, UInt64.toNat_ofNat_of_lt' (by show _ < 18446744073709551616; omega)]; omega
theorem zig_neg {m : Int} (h : ¬ 0 ≤ m) (h1 : -9223372036854775808 ≤ m) : W (zigF m) = -2 * m - 1 := by
  unfold W zigF; rw [if_neg h, UInt64.toNat_ofNat_of_lt' (by show _ < 18446744073709551616; omega)]; omega

theorem zig_c (m : Int) (h1 : -9223372036854775808 ≤ m) (h2 : m < 9223372036854775808) (w : World) :
    Calls Try.prog 116 #[.int .i64 m] w (RetV w (.int .u64 (W (zigF m)))) := by
  by_cases h : 0 ≤ m
  · have hz := zig_pos h h2
    rw [hz]
    clear hz
    go_enter Try.func116, Try.ntmps116
    go_wp2
    go_ret
    refine ⟨?_, Below.refl _ _⟩
    show Ending.returned (Value.int .u64 (bits BinOp.xor IntKind.u64 (m * 2) (m / 9223372036854775808))) = _
    obtain ⟨k, rfl⟩ := Int.eq_ofNat_of_zero_le h
    have e1 : (k : Int) / 9223372036854775808 = 0 := by omega
    have e2 : (k : Int) * 2 = ((k * 2 : Nat) : Int) := by omega
    rw [e1, e2, xor_u64_0 _ (by omega)]
    congr 2; omega
  · have hz := zig_neg h h1
    rw [hz]
    clear hz
    go_enter Try.func116, Try.ntmps116
    go_wp2
    go_ret
    refine ⟨?_, Below.refl _ _⟩
    show Ending.returned (Value.int .u64 (bits BinOp.xor IntKind.u64 (IntKind.u64.wrap (IntKind.u64.wrap m * 2)) (IntKind.u64.wrap (m / 9223372036854775808)))) = _
    have e1 : IntKind.u64.wrap (m / 9223372036854775808) = 18446744073709551615 := by rw [IntKind.wrap_u64]; omega
    obtain ⟨k, hk⟩ : ∃ k : Nat, (k : Int) = 2 * m + 18446744073709551616 := ⟨(2 * m + 18446744073709551616).toNat, by omega⟩
    have e2 : IntKind.u64.wrap (IntKind.u64.wrap m * 2) = (k : Int) := by rw [IntKind.wrap_u64, IntKind.wrap_u64]; omega
    rw [e1, e2, xor_u64_1 _ (by omega)]
    congr 2; omega
theorem rzig_c (m : Int) (h1 : -9223372036854775808 ≤ m) (h2 : m < 9223372036854775808) (w : World) :
    Calls Try.prog 112 #[.int .i64 m] w (RetV w (.int .u64 (W (zigF m)))) := by
  by_cases h : 0 ≤ m
  · have hz := zig_pos h h2
    rw [hz]
    clear hz
    go_enter Try.func112, Try.ntmps112
    go_wp2
    go_ret
    exact ⟨rfl, Below.refl _ _⟩
  · have hz := zig_neg h h1
    rw [hz]
    clear hz
    go_enter Try.func112, Try.ntmps112
    go_wp2
    go_ret
    exact ⟨by show Ending.returned (Value.int .u64 (2 * -(m + 1) + 1)) = _; congr 2; omega, Below.refl _ _⟩
theorem zag_c (n : UInt64) (w : World) :
    Calls Try.prog 117 #[.int .u64 (W n)] w (RetV w (.int .i64 (zagF n))) := by
  have hn := n.toNat_lt
  have h1 := W_lo n
  have h2 := W_hi n
  obtain ⟨x, hx⟩ : ∃ x : Int, W n = x := ⟨_, rfl⟩
  have HX := Lib.hid hx
  have HN := Lib.hid hn
  rw [hx] at h1 h2 ⊢
  clear hx hn
  go_enter Try.func117, Try.ntmps117
  go_wp2
  go_ret
  have hx := HX.out
  have hn := HN.out
  subst hx
  refine ⟨?_, Below.refl _ _⟩
  show Ending.returned (Value.int .i64 (bits BinOp.xor IntKind.i64 (W n / 2) (wrap64 (-wrap64 (bits BinOp.and IntKind.u64 (W n) 1))))) = _
  unfold W zagF
  generalize n.toNat = k at *
  have e : (k : Int) / 2 = ((k / 2 : Nat) : Int) := by omega
  rw [and_u64_1 k (by omega), e]
  by_cases h : k % 2 = 0
  · have e1 : wrap64 (-wrap64 (((k % 2 : Nat) : Int))) = 0 := by unfold wrap64; omega
    rw [e1, xor_i64_0 _ (by omega), if_pos h]
  · have e1 : wrap64 (-wrap64 (((k % 2 : Nat) : Int))) = -1 := by unfold wrap64; omega
    rw [e1, xor_i64_1 _ (by omega), if_neg h]
    congr 2; omega
theorem rzag_c (n : UInt64) (w : World) :
    Calls Try.prog 118 #[.int .u64 (W n)] w (RetV w (.int .i64 (zagF n))) := by
  have hn := n.toNat_lt
  have h1 := W_lo n
  have h2 := W_hi n
  obtain ⟨x, hx⟩ : ∃ x : Int, W n = x := ⟨_, rfl⟩
  have HX := Lib.hid hx
  have HN := Lib.hid hn
  rw [hx] at h1 h2 ⊢
  by_cases h : x % 2 = 0
  · have h0 : zagF n = x / 2 := by rw [← hx]; unfold zagF W at *; rw [if_pos (by omega)]; omega
    rw [h0]
    clear h0 hx hn
    go_enter Try.func118, Try.ntmps118
    go_wp2
    go_ret
    exact ⟨rfl, Below.refl _ _⟩
  · have h0 : zagF n = -(x / 2) - 1 := by rw [← hx]; unfold zagF W at *; rw [if_neg (by omega)]; omega
    rw [h0]
    clear h0 hx hn
    go_enter Try.func118, Try.ntmps118
    go_wp2
    go_ret
    exact ⟨rfl, Below.refl _ _⟩
end

section
open Go.RowKit
set_option linter.unusedVariables false
set_option linter.unusedSimpArgs false

def tkV (t : UInt64 × Nat × Int) : Value := .tuple #[.int .u64 (W t.1), .int .i64 (t.2.1 : Int), .int .i64 t.2.2]

def joinF (a : UInt64) (c : UInt8) (k : Nat) : UInt64 := a ||| UInt64.ofNat (c.toNat % 128 * 2 ^ (7 * k))
theorem W_join (a : UInt64) (c : UInt8) (k : Nat) : bits .or .u64 (W a) (IntKind.u64.wrap (IntKind.u64.wrap (bits .and .u8 (B c) 127) * 2 ^ (7 * k))) = W (joinF a c k) := by
  have e1 : bits .and .u8 (B c) 127 = ((c.toNat % 128 : Nat) : Int) := by
    unfold B
    rw [show (127 : Int) = ((127 : Nat) : Int) from rfl, u8_and_nat _ 127 c.toNat_lt (by decide)]
    rw [show (127 : Nat) = 2 ^ 7 - 1 from rfl, Nat.and_two_pow_sub_one_eq_mod]
  have e2 : IntKind.u64.wrap ((c.toNat % 128 : Nat) : Int) = ((c.toNat % 128 : Nat) : Int) := by rw [IntKind.wrap_u64]; omega
  have e3 : ∀ x : Nat, IntKind.u64.wrap ((x : Int) * 2 ^ (7 * k)) = ((x * 2 ^ (7 * k) % 18446744073709551616 : Nat) : Int) := by
    intro x
    rw [IntKind.wrap_u64, Int.natCast_emod, Int.natCast_mul, Int.natCast_pow]
    rfl
  rw [e1, e2, e3]
  unfold W joinF
  rw [u64_or_nat _ _ a.toNat_lt (Nat.mod_lt _ (by decide)), UInt64.toNat_or, UInt64.toNat_ofNat']

theorem join_val {a : UInt64} {l : List UInt8} {k : Nat} (h : k < l.length) (ha : a.toNat = vval (l.take k)) (hk : k < 9 ∨ k = 9 ∧ l[k].toNat ≤ 1) : (joinF a l[k] k).toNat = vval (l.take (k + 1)) := by
  have hlt : vval (l.take k) < 2 ^ (7 * k) := by
    have := vval_lt (l.take k)
    rw [List.length_take, Nat.min_eq_left (by omega)] at this
    rw [Nat.pow_mul]; exact this
  have hx : l[k].toNat % 128 * 2 ^ (7 * k) < 2 ^ 64 := by
    rcases hk with hk | ⟨rfl, hk⟩
    · have h1 : 2 ^ (7 * k) ≤ 2 ^ 56 := Nat.pow_le_pow_right (by decide) (by omega)
      have h2 : l[k].toNat % 128 ≤ 127 := by omega
      exact Nat.lt_of_le_of_lt (Nat.mul_le_mul h2 h1) (by decide)
    · have h2 : l[9].toNat % 128 ≤ 1 := by omega
      exact Nat.lt_of_le_of_lt (Nat.mul_le_mul h2 (Nat.le_refl _)) (by decide)
  rw [List.take_succ_eq_append_getElem h, vval_append, List.length_take, Nat.min_eq_left (by omega)]
  unfold joinF
  rw [UInt64.toNat_or, UInt64.toNat_ofNat', Nat.mod_eq_of_lt hx, ha, Nat.or_comm, Nat.mul_comm (l[k].toNat % 128), ← Nat.two_pow_add_eq_or_of_lt hlt]
  have e : (128 : Nat) ^ k = 2 ^ (7 * k) := by rw [Nat.pow_mul]
  rw [e]
  simp only [vval, Nat.mul_zero, Nat.add_zero]
  omega

theorem big_val {l : List UInt8} (h : 9 < l.length) (hb : 1 < l[9].toNat) (h8 : l[9].toNat < 128) : 18446744073709551616 ≤ vval (l.take (9 + 1)) := by
  rw [List.take_succ_eq_append_getElem h, vval_append, List.length_take, Nat.min_eq_left (by omega)]
  simp only [vval]
  have : 2 ≤ l[9].toNat % 128 := by omega
  have e : (128 : Nat) ^ 9 = 9223372036854775808 := by decide
  rw [e]
  omega
attribute [local go_sem] W_join

theorem tk_big {l : List UInt8} {s : Nat} (hs : scan l = some s) (h : s < l.length) (hb : s = 9 ∧ 1 < l[s].toNat) : tkV (tk l) = .tuple #[.int .u64 0, .int .i64 0, .int .i64 3] := by
  obtain ⟨h1, h2, h3, h4⟩ := scan_some hs
  obtain ⟨rfl, hb⟩ := hb
  rw [tk_some hs, if_neg]
  · rfl
  · rintro ⟨_, h⟩
    have := big_val h1 hb h3
    omega
theorem tk_yes {l : List UInt8} {s : Nat} (hs : scan l = some s) {a : UInt64} (ha : a.toNat = vval (l.take (s + 1))) (hq : (vput a.toNat).length = s + 1) : tkV (tk l) = .tuple #[.int .u64 (W a), .int .i64 ((s : Int) + 1), .int .i64 0] := by
  obtain ⟨h1, h2, h3, h4⟩ := scan_some hs
  have hl : (l.take (s + 1)).length = s + 1 := by rw [List.length_take]; omega
  rw [tk_some hs, if_pos ⟨(vput_vval _ (form_of l s h1 h3 h4)).1 (by rw [← ha, hq, hl]), by rw [← ha]; exact a.toNat_lt⟩, ← ha, UInt64.ofNat_toNat]
  rfl
theorem tk_not {l : List UInt8} {s : Nat} (hs : scan l = some s) {a : UInt64} (ha : a.toNat = vval (l.take (s + 1))) (hq : ¬ (vput a.toNat).length = s + 1) : tkV (tk l) = .tuple #[.int .u64 0, .int .i64 0, .int .i64 3] := by
  obtain ⟨h1, h2, h3, h4⟩ := scan_some hs
  have hl : (l.take (s + 1)).length = s + 1 := by rw [List.length_take]; omega
  rw [tk_some hs, if_neg]
  · rfl
  · rintro ⟨h, _⟩
    exact hq (by rw [ha, h, hl])

set_option maxRecDepth 100000 in
set_option maxHeartbeats 400000 in
theorem take_c (v : Value) (l : List UInt8) (w : World) (h : Sb w v l) (hl : l.length ≤ 1000000000) :
    Calls Try.prog 85 #[v] w (RetV w (tkV (tk l))) := by
  obtain ⟨A, c, rfl, h1, h2⟩ := h.form
  have H := Lib.hid h
  clear h
  cases hs : scan l with
  | none =>
    rw [tk_none hs]
    have HN := Lib.hid (scan_none hs)
    clear hs
    by_cases hten : l.length < 10
    · rw [if_pos hten]
      show Calls _ _ _ _ (RetV w (.tuple #[.int .u64 0, .int .i64 0, .int .i64 2]))
      go_enter Try.func85, Try.ntmps85
      go_wp2; go_step3; go_wp2; go_step3; go_wp2
      go_loopg [5, 6, 11] (l.length) (fun g n z i wr => ∃ k : Nat, g + k = l.length ∧ z = .int .i64 0 ∧ i = .int .i64 k ∧ (∃ a : UInt64, n = .int .u64 (W a)) ∧ wr = w)
      case atStart => exact ⟨0, rfl, rfl, rfl, ⟨0, rfl⟩, rfl⟩
      case round =>
        obtain ⟨k, hk, rfl, rfl, ⟨a, rfl⟩, rfl⟩ := hrel
        by_cases hlt : k < l.length
        · obtain ⟨ad, rfl, had⟩ := H.out.at_ k hlt
          have hb : 128 ≤ B l[k] := by have := HN.out k hlt (by omega); unfold B; omega
          have hb2 := B_hi l[k]
          have hk9 : k < 9 := by omega
          go_wp2
          go_roundg (gk - 1)
          case measure => omega
          case rel => exact ⟨k + 1, by omega, rfl, by go_num, ⟨_, rfl⟩, rfl⟩
        · go_wp2
          rw [Exit.noGoto_ret]
          go_ret3
          exact ⟨rfl, Below.refl _ _⟩
    · rw [if_neg hten]
      show Calls _ _ _ _ (RetV w (.tuple #[.int .u64 0, .int .i64 0, .int .i64 3]))
      go_enter Try.func85, Try.ntmps85
      go_wp2; go_step3; go_wp2; go_step3; go_wp2
      go_loopg [5, 6, 11] (10) (fun g n z i wr => ∃ k : Nat, g + k = 10 ∧ 1 ≤ g ∧ z = .int .i64 0 ∧ i = .int .i64 k ∧ (∃ a : UInt64, n = .int .u64 (W a)) ∧ wr = w)
      case atStart => exact ⟨0, rfl, by decide, rfl, rfl, ⟨0, rfl⟩, rfl⟩
      case round =>
        obtain ⟨k, hk, hg, rfl, rfl, ⟨a, rfl⟩, rfl⟩ := hrel
        have hlt : k < l.length := by omega
        obtain ⟨ad, rfl, had⟩ := H.out.at_ k hlt
        have hb : 128 ≤ B l[k] := by have := HN.out k hlt (by omega); unfold B; omega
        have hb2 := B_hi l[k]
        by_cases hk9 : k < 9
        · go_wp2
          go_roundg (gk - 1)
          case measure => omega
          case rel => exact ⟨k + 1, by omega, by omega, rfl, by go_num, ⟨_, rfl⟩, rfl⟩
        · have hk' : k ≤ 9 := by omega
          have hq : ((k : Int) == 9) = true := by rw [beq_iff_eq]; omega
          go_wp2
          rw [Exit.noGoto_ret]
          go_ret3
          exact ⟨rfl, Below.refl _ _⟩
  | some s =>
    obtain ⟨g1, g2, g3, g4⟩ := scan_some hs
    have HS := Lib.hid hs
    have G4 := Lib.hid g4
    clear hs g4
    obtain ⟨V, hV⟩ : ∃ V, tkV (tk l) = V := ⟨_, rfl⟩
    have HV := Lib.hid hV
    rw [hV]
    clear hV
    go_enter Try.func85, Try.ntmps85
    go_wp2; go_step3; go_wp2; go_step3; go_wp2
    go_loopg [5, 6, 11] (s) (fun g n z i wr => ∃ k : Nat, g + k = s ∧ z = .int .i64 0 ∧ i = .int .i64 k ∧ (∃ a : UInt64, n = .int .u64 (W a) ∧ Hid (a.toNat = vval (l.take k))) ∧ wr = w)
    case atStart => exact ⟨0, rfl, rfl, rfl, ⟨0, rfl, rfl⟩, rfl⟩
    case round =>
      obtain ⟨k, hk, rfl, rfl, ⟨a, rfl, Ha⟩, rfl⟩ := hrel
      have hlt : k < l.length := by omega
      obtain ⟨ad, rfl, had⟩ := H.out.at_ k hlt
      have hb2 := B_hi l[k]
      by_cases hks : k < s
      · have hb : 128 ≤ B l[k] := by have := G4.out k hks; unfold B; omega
        have hk9 : k < 9 := by omega
        go_wp2
        go_roundg (gk - 1)
        case measure => omega
        case rel => exact ⟨k + 1, by omega, rfl, by go_num, ⟨_, rfl, join_val hlt Ha.out (.inl hk9)⟩, rfl⟩
      · have hk' : k = s := by omega
        subst hk'
        have hb : B l[k] < 128 := by unfold B; omega
        have hb0 := B_lo l[k]
        by_cases hbig : k = 9 ∧ 1 < l[k].toNat
        · have hval := tk_big HS.out hlt hbig
          rw [HV.out] at hval
          have HVal := Lib.hid hval
          clear hval
          obtain ⟨hk', hb1⟩ := hbig
          have hb3 : 1 < B l[k] := by unfold B; omega
          have hq : ((k : Int) == 9) = true := by rw [beq_iff_eq]; omega
          clear g3 hb1 hk'
          go_wp2
          rw [Exit.noGoto_ret]
          go_ret3
          exact ⟨by rw [HVal.out]; rfl, Below.refl _ _⟩
        · have hj : (joinF a l[k] k).toNat = vval (l.take (k + 1)) := join_val hlt Ha.out (by omega)
          have HJ := Lib.hid hj
          clear hj
          obtain ⟨m, hm⟩ : ∃ m, (vput (joinF a l[k] k).toNat).length = m := ⟨_, rfl⟩
          have HM := Lib.hid hm
          have hm10 : m ≤ 10 := by rw [← hm]; exact vput_len (UInt64.toNat_lt _)
          have hmz : m = k + 1 → V = .tuple #[.int .u64 (W (joinF a l[k] k)), .int .i64 ((k : Int) + 1), .int .i64 0] := fun h => by
            rw [← HV.out]; exact tk_yes HS.out HJ.out (by rw [hm, h])
          have hmn : ¬ m = k + 1 → V = .tuple #[.int .u64 0, .int .i64 0, .int .i64 3] := fun h => by
            rw [← HV.out]; exact tk_not HS.out HJ.out (by rw [hm]; exact h)
          have HY := Lib.hid hmz
          have HZ := Lib.hid hmn
          clear hm hmz hmn g3
          by_cases h9 : k = 9
          · have hq : ((k : Int) == 9) = true := by rw [beq_iff_eq]; omega
            have hb3 : ¬ 1 < B l[k] := by unfold B; omega
            clear hbig
            by_cases hmk : m = k + 1
            · have hv : ((k : Int) + 1 != (m : Int)) = false := by rw [bne_eq_false_iff_eq]; omega
              have HMK := Lib.hid hmk
              clear hmk h9
              go_wp2_with (go_at_call 105; refine (size_c _ _).mono ?_; rintro e w1 ⟨rfl, hb1⟩; rw [HM.out])
              rw [Exit.noGoto_ret]
              go_ret3
              exact ⟨by rw [HY.out HMK.out]; rfl, hb1⟩
            · have hv : ((k : Int) + 1 != (m : Int)) = true := by rw [bne_iff_ne]; omega
              have HMK := Lib.hid hmk
              clear hmk h9
              go_wp2_with (go_at_call 105; refine (size_c _ _).mono ?_; rintro e w1 ⟨rfl, hb1⟩; rw [HM.out])
              rw [Exit.noGoto_ret]
              go_ret3
              exact ⟨by rw [HZ.out HMK.out]; rfl, hb1⟩
          · have hq : ((k : Int) == 9) = false := by rw [beq_eq_false_iff_ne]; omega
            have hk9 : k < 9 := by omega
            clear hbig
            by_cases hmk : m = k + 1
            · have hv : ((k : Int) + 1 != (m : Int)) = false := by rw [bne_eq_false_iff_eq]; omega
              have HMK := Lib.hid hmk
              clear hmk h9
              go_wp2_with (go_at_call 105; refine (size_c _ _).mono ?_; rintro e w1 ⟨rfl, hb1⟩; rw [HM.out])
              rw [Exit.noGoto_ret]
              go_ret3
              exact ⟨by rw [HY.out HMK.out]; rfl, hb1⟩
            · have hv : ((k : Int) + 1 != (m : Int)) = true := by rw [bne_iff_ne]; omega
              have HMK := Lib.hid hmk
              clear hmk h9
              go_wp2_with (go_at_call 105; refine (size_c _ _).mono ?_; rintro e w1 ⟨rfl, hb1⟩; rw [HM.out])
              rw [Exit.noGoto_ret]
              go_ret3
              exact ⟨by rw [HZ.out HMK.out]; rfl, hb1⟩
end
end Go.Proofs.Ytonllhjmoenckaa
