/- Parts of the proofs, joined: CrcT, CrcM, ScrT, Row, Tab, Tab2. -/
import Derived.Test.YtgfnpcmehnjopaaDoorS1
import Derived.OpenShut
import Derived.Test.YtgfnpcmehnjopaaDoorRows
import Derived.Lib.LaidTab
import Derived.ProofKit
import Derived.LaidMore
import Derived.Stop.Joined
section
namespace Go.Proofs.YtgfnpcmehnjopaaDoor
section
open Go.RowKit
set_option linter.unusedVariables false
set_option linter.unusedSimpArgs false
attribute [local go_sem] B_xor_pow
end
section
open Go.RowKit
set_option linter.unusedVariables false
set_option linter.unusedSimpArgs false
def bitN (n k : Nat) : Int := ((n / 2 ^ k % 2 : Nat) : Int)
set_option maxRecDepth 100000 in
set_option maxHeartbeats 400000 in
theorem rbit_c (x : UInt8) (k : Int) (w : World) (h0 : 0 ≤ k) (h1 : k ≤ 8) :
    Calls Tryd.prog 148 #[.int .u8 (B x), .int .i64 k] w fun e w' => e = .returned (.int .u32 (bitN x.toNat k.toNat)) ∧ w = w' := by
  obtain ⟨K, rfl⟩ := Int.eq_ofNat_of_zero_le h0
  rw [Int.toNat_natCast]
  have hK : K ≤ 8 := by omega
  clear h0 h1
  unfold B
  generalize hn : x.toNat = n
  have hlt : n < 256 := by rw [← hn]; exact x.toNat_lt
  clear hn
  go_enter Tryd.func148, Tryd.ntmps148
  go_wp2
  go_loop [0, 5] (fun v i => ∃ j y : Nat, j ≤ K ∧ y < 256 ∧ i = .int .i64 j ∧ v = .int .u8 y ∧ Hid (y = n / 2 ^ j)) (fun _ i => K - (intOf i).toNat)
  case atStart => exact ⟨0, n, Nat.zero_le _, hlt, rfl, rfl, by simp [Hid]⟩
  case round =>
    obtain ⟨j, y, hj, hy, rfl, rfl, hyy⟩ := hrel
    by_cases hjk : j < K
    · go_wp2
      go_round
      case rel => exact ⟨j + 1, y / 2, by omega, by omega, by go_num, by go_num, by unfold Hid; rw [hyy.out, Nat.pow_succ, Nat.div_div_eq_div_mul]⟩
      case measure => simp [intOf]; omega
    · have e : j = K := by omega
      subst e
      go_wp2
      go_ret
      refine ⟨?_, rfl⟩
      have : bitN n j = (y : Int) % 2 := by unfold bitN; rw [← hyy.out]; rfl
      rw [this]
      rfl
def rbit1 (c : UInt32) (x : UInt8) (k : Nat) : UInt32 := if ((c.toNat % 2 : Nat) : Int) ≠ bitN x.toNat k then c >>> 1 ^^^ 2197175160 else c >>> 1
def rbyteN (c : UInt32) (x : UInt8) (k : Nat) : UInt32 := (List.range k).foldl (fun c k => rbit1 c x k) c
theorem rbyteN_succ (c : UInt32) (x : UInt8) (k : Nat) : rbyteN c x (k + 1) = rbit1 (rbyteN c x k) x k := by
  unfold rbyteN; rw [List.range_succ, List.foldl_append]; rfl
def rsumF (l : List UInt8) : UInt32 := ~~~(l.foldl (fun c x => rbyteN c x 8) 4294967295)
theorem U_mod2 (c : UInt32) : U c % 2 = ((c.toNat % 2 : Nat) : Int) := by unfold U; omega
theorem fold_take (f : UInt32 → UInt8 → UInt32) (c : UInt32) (l : List UInt8) (k : Nat) (h : k < l.length) : (l.take (k + 1)).foldl f c = f ((l.take k).foldl f c) l[k] := by
  rw [List.take_succ_eq_append_getElem h, List.foldl_append]; rfl
theorem U_tdiv2 (a : UInt32) : (U a).tdiv (2 : Int) % (4294967296 : Int) = U (a >>> 1) := by
  have h0 := U_lo a
  have h1 := U_hi a
  rw [Int.tdiv_eq_ediv_of_nonneg h0, U_half]
  have h2 := U_lo (a >>> 1)
  have h3 := U_hi (a >>> 1)
  omega
theorem U_tmod2 (c : UInt32) : (U c).tmod 2 = ((c.toNat % 2 : Nat) : Int) := by rw [Int.tmod_eq_emod_of_nonneg (U_lo c), U_mod2]
theorem U_wrap (a : UInt32) : U a % (4294967296 : Int) = U a := by have := U_lo a; have := U_hi a; omega
theorem U_poly (a : UInt32) : bits .xor .u32 (U a) 2197175160 = U (a ^^^ 2197175160) := U_xor a 2197175160
attribute [local go_sem] U_tdiv2 U_poly U_flip U_wrap
set_option maxRecDepth 100000 in
set_option maxHeartbeats 1000000 in
theorem rsum_c (v : Value) (l : List UInt8) (w : World) (h : Sb w v l) :
    Calls Tryd.prog 145 #[v] w (RetV w (.int .u32 (U (rsumF l)))) := by
  obtain ⟨A, c, rfl, h1, h2⟩ := h.form
  have H := Lib.hid h
  have hlen : l.length ≤ 9223372036854775807 := h.max
  clear h
  go_enter Tryd.func145, Tryd.ntmps145
  go_wp2
  have hU : (4294967295 : Int) = U 4294967295 := rfl
  go_loop [3, 4] (fun c i => ∃ (k : Nat) (u : UInt32), k ≤ l.length ∧ i = .int .i64 k ∧ c = .int .u32 (U u) ∧ Hid (u = (l.take k).foldl (fun c x => rbyteN c x 8) 4294967295)) (fun _ i => l.length - (intOf i).toNat)
  case atStart => exact ⟨0, 4294967295, Nat.zero_le _, rfl, rfl, by simp [Hid]⟩
  case round =>
    obtain ⟨k, u, hk, rfl, rfl, hu⟩ := hrel
    clear hU
    by_cases hlt : k < l.length
    · obtain ⟨ad, rfl, had⟩ := Sb.at_ H.out k hlt
      go_wp2
      go_loop [3, 5] (fun c i => ∃ (j : Nat) (u1 : UInt32), j ≤ 8 ∧ i = .int .i64 j ∧ c = .int .u32 (U u1) ∧ Hid (u1 = rbyteN u l[k] j)) (fun _ i => 8 - (intOf i).toNat)
      case atStart => exact ⟨0, u, by omega, rfl, rfl, by simp [Hid, rbyteN]⟩
      case round =>
        obtain ⟨j, u1, hj, rfl, rfl, hu1⟩ := hrel
        by_cases hjl : j < 8
        · have hs := rbyteN_succ u l[k] j
          rw [← hu1.out] at hs
          have HS := Lib.hid hs
          clear hs
          have HM := Lib.hid (U_tmod2 u1)
          by_cases hb : ((u1.toNat % 2 : Nat) : Int) = bitN l[k].toNat j
          · have hn : ((U u1).tmod 2 != bitN l[k].toNat j) = false := by rw [HM.out, hb]; simp
            have HB : Hid (rbit1 u1 l[k] j = u1 >>> 1) := by unfold Hid rbit1; rw [if_neg (by simpa using hb)]
            clear hb
            go_wp2_with (go_at_call 148; refine (rbit_c l[k] (j : Int) _ (by omega) (by omega)).mono ?_; rw [Int.toNat_natCast]; rintro e w1 ⟨rfl, rfl⟩)
            go_round
            case rel => exact ⟨j + 1, u1 >>> 1, by omega, by go_num, by rw [U_tdiv2], by unfold Hid; rw [HS.out, HB.out]⟩
            case measure => simp [intOf]; omega
          · have hn : ((U u1).tmod 2 != bitN l[k].toNat j) = true := by rw [HM.out, bne_iff_ne]; exact hb
            have HB : Hid (rbit1 u1 l[k] j = u1 >>> 1 ^^^ 2197175160) := by unfold Hid rbit1; rw [if_pos (by simpa using hb)]
            clear hb
            go_wp2_with (go_at_call 148; refine (rbit_c l[k] (j : Int) _ (by omega) (by omega)).mono ?_; rw [Int.toNat_natCast]; rintro e w1 ⟨rfl, rfl⟩)
            go_round
            case rel => exact ⟨j + 1, _, by omega, by go_num, rfl, by unfold Hid; rw [HS.out, HB.out]⟩
            case measure => simp [intOf]; omega
        · have e : j = 8 := by omega
          subst e
          have HF := Lib.hid (fold_take (fun c x => rbyteN c x 8) 4294967295 l k hlt)
          go_wp2
          go_round
          case rel => exact ⟨k + 1, _, by omega, by go_num, rfl, by unfold Hid; rw [HF.out, ← hu.out, hu1.out]⟩
          case measure => simp [intOf]; omega
    · have hk2 : l.take k = l := List.take_of_length_le (by omega)
      rw [hk2] at hu
      have hh := U_hi u
      have hl := U_lo u
      go_wp2
      go_ret
      refine ⟨?_, Below.refl _ _⟩
      have : rsumF l = ~~~u := by unfold rsumF; rw [← hu.out]
      rw [this]
      rfl
end
section
open Go.RowKit
set_option linter.unusedVariables false
set_option linter.unusedSimpArgs false
def rsealF (l : List UInt8) : List UInt8 := l ++ tail4 (rsumF l)
def ropenF (l : List UInt8) : List UInt8 × Int :=
  if l.length < 4 then ([], 2) else if rsealF (l.take (l.length - 4)) = l then (l.take (l.length - 4), 0) else ([], 5)
theorem U_tmod256 (a : UInt32) : (U a).tmod (256 : Int) = B a.toUInt8 := by rw [Int.tmod_eq_emod_of_nonneg (U_lo a), U_b0]
theorem U_tdiv_8 (a : UInt32) : (U a).tdiv (256 : Int) % (4294967296 : Int) = U (a >>> 8) := by
  have h2 := U_lo (a >>> 8)
  have h3 := U_hi (a >>> 8)
  rw [Int.tdiv_eq_ediv_of_nonneg (U_lo a), U_shr8]
  omega
theorem U_tdiv_16 (a : UInt32) : (U a).tdiv (65536 : Int) % (4294967296 : Int) = U (a >>> 16) := by
  have h2 := U_lo (a >>> 16)
  have h3 := U_hi (a >>> 16)
  rw [Int.tdiv_eq_ediv_of_nonneg (U_lo a), U_shr16]
  omega
theorem U_tdiv_24 (a : UInt32) : (U a).tdiv (16777216 : Int) % (4294967296 : Int) = U (a >>> 24) := by
  have h2 := U_lo (a >>> 24)
  have h3 := U_hi (a >>> 24)
  rw [Int.tdiv_eq_ediv_of_nonneg (U_lo a), U_shr24]
  omega
theorem B_wrap (a : UInt8) : B a % (256 : Int) = B a := by have := B_lo a; have := B_hi a; omega
attribute [local go_sem] U_tmod256 U_tdiv_8 U_tdiv_16 U_tdiv_24 B_wrap U_b0
set_option maxRecDepth 100000 in
set_option maxHeartbeats 1000000 in
theorem rseal_c (v : Value) (l : List UInt8) (w : World) (h : Sb w v l) (hl : l.length ≤ 1000000000) :
    Calls Tryd.prog 128 #[v] w (RetB w (rsealF l)) := by
  have H := Lib.hid h
  clear h
  go_enter Tryd.func128, Tryd.ntmps128
  go_wp2_with fail
  refine (rsum_c v l _ H.out).mono ?_
  rintro e w1 ⟨rfl, hb1⟩
  go_wp2_with (first
    | (at_builtin; refine wpList_app _ rfl (.tmp 6) (.tmp 7) _ rfl w1.heap.size 5 _ 1 1 Tryd.underlying23 info_u8 rfl (by omega) (.slice (some ⟨w1.heap.size, 0, none⟩) 0 0) 0 [] rfl (own_new w1 #[] _ 0 1 _ (Nat.le_refl _) rfl (by omega)) _ l.length (l.map bv) rfl (Sl.alloc (H.out.below hb1) _) (bvs_one l) (by omega) (by simp only [maxLen]; omega) (by simp) ?_; intro v2 w2 hown2 hg2 hat2; have hb2 := ((Below.refl w1.heap.size w1).alloc (Nat.le_refl _) _).grown hg2 (by simp) (by simp [Value.ownBlock]))
    | (at_builtin; refine wpList_app _ rfl (.tmp 8) (.tmp 23) _ rfl w1.heap.size 5 _ 1 1 Tryd.underlying23 info_u8 rfl (by omega) v2 _ _ rfl (own_below hown2 ((Below.refl _ _).alloc (Nat.le_refl _) _)) (.slice (some ⟨w2.heap.size, 0, none⟩) 4 4) 4 ((tail4 (rsumF l)).map bv) rfl (Sl.new w2 _ _ (by simp)) (bvs_one _) (by omega) (by simp only [maxLen]; omega) (by have := hb2.size; simp; omega) ?_; intro v3 w3 hown3 hg3 hat3))
  go_ret
  have hb13 := (hb2.alloc hb2.size (Obj.cells #[.int .u8 (B (rsumF l).toUInt8), .int .u8 (B (rsumF l >>> 8).toUInt8), .int .u8 (B (rsumF l >>> 16).toUInt8), .int .u8 (B (rsumF l >>> 24).toUInt8)] 5)).grown hg3 (by have := hb2.size; simp; omega) fun k hk => own_ge hown2 k hk
  refine ⟨v3, rfl, ?_, gthen hb1 hb13⟩
  have := own_base hown3 hb1.size
  unfold Ob rsealF
  simpa [tail4, Nat.add_assoc] using this
end
end Go.Proofs.YtgfnpcmehnjopaaDoor
end
section
namespace Go.Proofs.YtgfnpcmehnjopaaDoor
section
set_option linter.unusedVariables false
set_option linter.unusedSimpArgs false
def poly : BitVec 32 := 0x82f63b78#32
def t1 (c : BitVec 32) : BitVec 32 := (c >>> 1) ^^^ (if c.getLsbD 0 then poly else 0#32)
def t1n : Nat → BitVec 32 → BitVec 32
  | 0, c => c
  | n + 1, c => t1n n (t1 c)
theorem t1_xor (a b : BitVec 32) : t1 (a ^^^ b) = t1 a ^^^ t1 b := by
  apply BitVec.eq_of_getLsbD_eq
  intro i hi
  unfold t1
  rw [BitVec.getLsbD_xor (x := a) (y := b) (i := 0)]
  cases a.getLsbD 0 <;> cases b.getLsbD 0 <;> simp only [BitVec.getLsbD_xor, BitVec.getLsbD_ushiftRight, Bool.xor_false, Bool.false_xor, Bool.xor_true, Bool.true_xor, Bool.not_true, Bool.not_false, if_true, if_false, Bool.false_eq_true, BitVec.getLsbD_zero] <;>
    cases a.getLsbD (1 + i) <;> cases b.getLsbD (1 + i) <;> cases poly.getLsbD i <;> rfl
theorem t1_shl {y : BitVec 32} (h : y.getLsbD 31 = false) : t1 (y <<< 1) = y := by
  have h0 : (y <<< 1).getLsbD 0 = false := by rw [BitVec.getLsbD_shiftLeft]; simp
  apply BitVec.eq_of_getLsbD_eq
  intro i hi
  simp only [t1, h0, BitVec.getLsbD_xor, BitVec.getLsbD_ushiftRight, BitVec.getLsbD_shiftLeft]
  by_cases h31 : i = 31
  · subst h31; rw [h]; simp
  · have : 1 + i < 32 := by omega
    simp [this]
theorem t1n_xor (n : Nat) : ∀ a b : BitVec 32, t1n n (a ^^^ b) = t1n n a ^^^ t1n n b := by
  induction n with
  | zero => intro a b; rfl
  | succ n ih => intro a b; simp only [t1n, t1_xor, ih]
theorem t1n_add (n m : Nat) : ∀ a : BitVec 32, t1n (n + m) a = t1n m (t1n n a) := by
  induction n with
  | zero => intro a; rw [Nat.zero_add]; rfl
  | succ n ih => intro a; rw [Nat.add_right_comm]; simp only [t1n, ih]
def b2w (b : Bool) : BitVec 32 := if b then 1#32 else 0#32
def reg (c : BitVec 32) (bs : List Bool) : BitVec 32 := bs.foldl (fun c b => t1 (c ^^^ b2w b)) c
def word : List Bool → BitVec 32
  | [] => 0#32
  | b :: bs => b2w b ^^^ (word bs <<< 1)
theorem b2w_bit (b : Bool) (i : Nat) : (b2w b).getLsbD i = (decide (i = 0) && b) := by
  cases b <;> cases i <;> simp [b2w]
theorem word_bit : ∀ (bs : List Bool) (i : Nat), i < 32 → (word bs).getLsbD i = bs.getD i false
  | [], i, _ => by simp [word]
  | b :: bs, 0, _ => by
    simp only [word, BitVec.getLsbD_xor, b2w_bit, BitVec.getLsbD_shiftLeft]
    simp
  | b :: bs, i + 1, h => by
    have ih := word_bit bs i (by omega)
    simp only [word, BitVec.getLsbD_xor, b2w_bit, BitVec.getLsbD_shiftLeft]
    simp [ih, h]
theorem reg_feed : ∀ (bs : List Bool) (c : BitVec 32), bs.length ≤ 32 → reg c bs = t1n bs.length (c ^^^ word bs)
  | [], c, _ => by simp [reg, word, t1n]
  | b :: bs, c, h => by
    have h31 : (word bs).getLsbD 31 = false := by
      rw [word_bit _ _ (by omega), List.getD_eq_getElem?_getD, List.getElem?_eq_none (by simp at h; omega)]; rfl
    have ih := reg_feed bs (t1 (c ^^^ b2w b)) (by simp at h; omega)
    simp only [reg, List.foldl_cons] at ih ⊢
    rw [ih]
    simp only [List.length_cons, t1n, word]
    rw [← BitVec.xor_assoc, t1_xor (c ^^^ b2w b), t1_shl h31]
theorem reg_append (c : BitVec 32) (as0 bs : List Bool) : reg c (as0 ++ bs) = reg (reg c as0) bs := List.foldl_append ..
end
section
set_option linter.unusedVariables false
set_option linter.unusedSimpArgs false
def bits8 (x : UInt8) : List Bool := (List.range 8).map fun r => x.toNat.testBit r
def bitsOf (l : List UInt8) : List Bool := l.flatMap bits8
def bitAt (l : List UInt8) (p : Nat) : Bool := (l.getD (p / 8) 0).toNat.testBit (p % 8)
theorem bits8_len (x : UInt8) : (bits8 x).length = 8 := by simp [bits8]
theorem bits8_get (x : UInt8) (r : Nat) (h : r < 8) : (bits8 x)[r]? = some (x.toNat.testBit r) := by
  simp [bits8, h]
def eK (at_ : Int) (m : UInt32) (k p : Nat) : Bool := decide (at_ ≤ p ∧ (p : Int) < at_ + k) && mbit m ((p : Int) - at_).toNat
theorem bits8_word (x : UInt8) : word (bits8 x) = x.toBitVec.setWidth 32 := by
  apply BitVec.eq_of_getLsbD_eq
  intro i hi
  rw [word_bit _ _ hi, BitVec.getLsbD_setWidth]
  by_cases h8 : i < 8
  · rw [List.getD_eq_getElem?_getD, bits8_get x i h8]
    simp [hi, BitVec.getLsbD]
  · rw [List.getD_eq_getElem?_getD, List.getElem?_eq_none (by rw [bits8_len]; omega), BitVec.getLsbD_of_ge _ _ (by omega)]
    simp
theorem four_bits : ∀ n : Fin 16, (four (UInt32.ofNat n.val)).toBitVec = t1n 4 (BitVec.ofNat 32 n.val) := by decide
theorem half_t1 (c : UInt32) : (half c).toBitVec = t1n 4 c.toBitVec := by
  have hc : c.toBitVec = (c &&& 15).toBitVec ^^^ ((((c.toBitVec >>> 4) <<< 1) <<< 1) <<< 1) <<< 1 := by
    apply BitVec.eq_of_getLsbD_eq
    intro i hi
    have h15 : (c &&& 15).toBitVec.getLsbD i = (c.toBitVec.getLsbD i && decide (i < 4)) := by
      rw [UInt32.toBitVec_and, BitVec.getLsbD_and]
      congr 1
      have : ∀ i : Fin 32, (15 : UInt32).toBitVec.getLsbD i.val = decide (i.val < 4) := by decide
      exact this ⟨i, hi⟩
    rw [BitVec.getLsbD_xor, h15]
    simp only [BitVec.getLsbD_shiftLeft, BitVec.getLsbD_ushiftRight]
    by_cases h4 : i < 4
    · have : i = 0 ∨ i = 1 ∨ i = 2 ∨ i = 3 := by omega
      rcases this with rfl | rfl | rfl | rfl <;> simp
    · obtain ⟨j, rfl⟩ : ∃ j, i = j + 4 := ⟨i - 4, by omega⟩
      have e1 : ¬ (j + 4 < 1) := by omega
      have e2 : ¬ (j + 4 - 1 < 1) := by omega
      have e3 : ¬ (j + 4 - 1 - 1 < 1) := by omega
      have e4 : ¬ (j + 4 - 1 - 1 - 1 < 1) := by omega
      have e5 : j + 4 - 1 - 1 - 1 - 1 = j := by omega
      have e6 : j + 4 < 32 := hi
      have e7 : j + 4 - 1 < 32 := by omega
      have e8 : j + 4 - 1 - 1 < 32 := by omega
      have e9 : j + 4 - 1 - 1 - 1 < 32 := by omega
      simp only [e1, e2, e3, e4, e5, e6, e7, e8, e9, h4, decide_true, decide_false, Bool.and_false, Bool.true_and, Bool.not_false, Bool.false_xor]
      rw [Nat.add_comm]
  have hy : ∀ i, 28 ≤ i → (c.toBitVec >>> 4).getLsbD i = false := fun i hi => by
    rw [BitVec.getLsbD_ushiftRight, BitVec.getLsbD_of_ge _ _ (by omega)]
  have hlow : t1n 4 (c &&& 15).toBitVec = (four (c &&& 15)).toBitVec := by
    have h := four_bits ⟨(c &&& 15).toNat, and15_lt c⟩
    have e1 : UInt32.ofNat (c &&& 15).toNat = c &&& 15 := UInt32.ofNat_toNat
    have e2 : BitVec.ofNat 32 (c &&& 15).toNat = (c &&& 15).toBitVec := BitVec.eq_of_toNat_eq (by
      rw [BitVec.toNat_ofNat]; exact Nat.mod_eq_of_lt (c &&& 15).toNat_lt)
    simp only [e1, e2] at h
    exact h.symm
  have hhi : t1n 4 (((((c.toBitVec >>> 4) <<< 1) <<< 1) <<< 1) <<< 1) = c.toBitVec >>> 4 := by
    simp only [t1n]
    rw [t1_shl, t1_shl, t1_shl, t1_shl]
    · exact hy 31 (by omega)
    · rw [BitVec.getLsbD_shiftLeft]; simp [hy 30 (by omega)]
    · rw [BitVec.getLsbD_shiftLeft, BitVec.getLsbD_shiftLeft]; simp [hy 29 (by omega)]
    · rw [BitVec.getLsbD_shiftLeft, BitVec.getLsbD_shiftLeft, BitVec.getLsbD_shiftLeft]; simp [hy 28 (by omega)]
  conv => rhs; rw [hc]
  rw [t1n_xor, hlow, hhi]
  unfold half
  rw [UInt32.toBitVec_xor, UInt32.toBitVec_shiftRight]
  rfl
theorem step1_reg (c : UInt32) (x : UInt8) : (step1 c x).toBitVec = reg c.toBitVec (bits8 x) := by
  rw [reg_feed _ _ (by rw [bits8_len]; omega), bits8_len, bits8_word]
  unfold step1
  rw [half_t1, half_t1, UInt32.toBitVec_xor, ← t1n_add]
  rfl
theorem openF_seal (l : List UInt8) : openF (sealF l) = (l, 0) := by
  have hl : (sealF l).length = l.length + 4 := by simp [sealF, tail4]
  have ht : (sealF l).take ((sealF l).length - 4) = l := by rw [hl, Nat.add_sub_cancel]; unfold sealF; exact List.take_left
  unfold openF
  rw [if_neg (by omega), ht, if_pos rfl]
end
section
set_option linter.unusedVariables false
set_option linter.unusedSimpArgs false
theorem rbit1_t1 (c : UInt32) (x : UInt8) (k : Nat) : (rbit1 c x k).toBitVec = t1 (c.toBitVec ^^^ b2w (x.toNat.testBit k)) := by
  have hs : (c.toBitVec ^^^ b2w (x.toNat.testBit k)) >>> 1 = c.toBitVec >>> 1 := by
    apply BitVec.eq_of_getLsbD_eq
    intro i hi
    rw [BitVec.getLsbD_ushiftRight, BitVec.getLsbD_ushiftRight, BitVec.getLsbD_xor, b2w_bit]
    rw [decide_eq_false (show ¬ (1 + i = 0) by omega)]; simp
  have hb : (c.toBitVec ^^^ b2w (x.toNat.testBit k)).getLsbD 0 = xor (c.toNat.testBit 0) (x.toNat.testBit k) := by
    rw [BitVec.getLsbD_xor, b2w_bit]
    simp [BitVec.getLsbD]
  unfold t1
  rw [hs, hb]
  unfold rbit1 bitN
  rw [Nat.testBit_zero, Nat.testBit_eq_decide_div_mod_eq]
  have e1 : (c >>> 1).toBitVec = c.toBitVec >>> 1 := by rw [UInt32.toBitVec_shiftRight]; rfl
  have h1 : c.toNat % 2 = 0 ∨ c.toNat % 2 = 1 := by omega
  have h2 : x.toNat / 2 ^ k % 2 = 0 ∨ x.toNat / 2 ^ k % 2 = 1 := by omega
  rcases h1 with h1 | h1 <;> rcases h2 with h2 | h2 <;> rw [h1, h2] <;> simp [e1, poly]
theorem rbyte_step1 (c : UInt32) (x : UInt8) : rbyteN c x 8 = step1 c x := by
  apply UInt32.toBitVec_inj.1
  rw [step1_reg]
  have hN : ∀ n, n ≤ 8 → (rbyteN c x n).toBitVec = reg c.toBitVec ((List.range n).map fun r => x.toNat.testBit r) := by
    intro n
    induction n with
    | zero => intro _; rfl
    | succ n ih =>
      intro h
      rw [rbyteN_succ, rbit1_t1, ih (by omega), List.range_succ, List.map_append, reg_append]
      rfl
  exact hN 8 (by omega)
theorem rsum_sum (l : List UInt8) : rsumF l = sumF l := by
  unfold rsumF sumF moreF
  have hf : (fun (c : UInt32) (x : UInt8) => rbyteN c x 8) = step1 := funext fun c => funext fun x => rbyte_step1 c x
  rw [hf]
  rfl
theorem rseal_seal (l : List UInt8) : rsealF l = sealF l := by unfold rsealF sealF; rw [rsum_sum]
end
end Go.Proofs.YtgfnpcmehnjopaaDoor
end
section
namespace Go.Proofs.YtgfnpcmehnjopaaDoor
open Go Go.RowKit
set_option linter.unusedVariables false
set_option linter.unusedSimpArgs false
variable {K : Nat → Obj → Prop}
def tl (d : Nat) : Int := [97, 1, 2, 4, 4, 4, 28, 130, 6].getD d 0
def TabT (w : World) : Prop := ∀ i : Nat, i < 9 → w.cell? ⟨0, i, none⟩ = some (.int .i64 (tl i))
set_option maxRecDepth 100000 in
set_option maxHeartbeats 400000 in
theorem has_c (d part : Int) (rs : Array Value) (w : World) (ht : TabT w) (h0 : 0 ≤ d) (h8 : d < 9) (hr : rs[0]? = some (.int .i64 d)) (hw : 0 < w.heap.size) :
    Calls Tryd.prog 52 #[.agg rs, .int .i64 part] w (RetV w (.bool (decide (bits .and .i64 (tl d.toNat) part ≠ 0)))) := by
  have t1 := ht d.toNat (by omega)
  clear ht
  generalize tl d.toNat = z at t1 ⊢
  go_enter Tryd.func52, Tryd.ntmps52
  go_wp2
  go_ret
  refine ⟨by by_cases hz0 : bits .and .i64 z part = 0 <;> simp [hz0], (Below.refl _ _).alloc (Nat.le_refl _) _⟩
end Go.Proofs.YtgfnpcmehnjopaaDoor
end
section
namespace Go.Proofs.YtgfnpcmehnjopaaDoor
open Go.RowKit
set_option linter.unusedVariables false
set_option linter.unusedSimpArgs false
end Go.Proofs.YtgfnpcmehnjopaaDoor
end
section
namespace Go.Proofs.YtgfnpcmehnjopaaDoor
open Go.ChangeShapes Go.WideShapes Go.ChangeAt Go.RowKit
set_option linter.unusedVariables false
set_option linter.unusedSimpArgs false
theorem gFour : Tryd.prog.globalNamed "packetboat/crc.four" = some 1 := by kernel_rfl
theorem tFour : (Tryd.prog.globals[1]?).map (·.type) = some 201 := by kernel_rfl
theorem cFour : Tryd.prog.cellsOf 201 = 16 := by kernel_rfl
theorem cU32 : Tryd.prog.cellsOf 36 = 1 := by kernel_rfl
theorem tab_nums : ∀ n : Nat, n < 16 → (tab4.map fun z : Nat => (z : Int)).getD n 0 = (((UInt32.ofNat (tab4.getD n 0)).toNat : Nat) : Int) := by decide
end Go.Proofs.YtgfnpcmehnjopaaDoor
end
section
namespace Go.Proofs.YtgfnpcmehnjopaaDoor
open Go Go.ChangeShapes Go.WideShapes Go.ChangeAt Go.RowKit
set_option linter.unusedVariables false
set_option linter.unusedSimpArgs false
theorem laidMet_tail {P : Program} {W : World} {a : String × DataW Unit} {rest : List (String × DataW Unit)} (h : laidMet P (a :: rest) W) : laidMet P rest W := by
  obtain ⟨n, d⟩ := a
  obtain ⟨ps, ⟨g, t, cs, fuel, p, q, _, _, _, _, hr, rfl⟩, hn, hc⟩ := h
  exact ⟨q, hr, (List.nodup_append.1 hn).2.1, fun b off hm => hc b off (List.mem_append_right _ hm)⟩
theorem gTells : Tryd.prog.globalNamed "packetboat/script.tells" = some 0 := by kernel_rfl
theorem tTells : (Tryd.prog.globals[0]?).map (·.type) = some 158 := by kernel_rfl
theorem cTells : Tryd.prog.cellsOf 158 = 9 := by kernel_rfl
theorem cInt1 : Tryd.prog.cellsOf 3 = 1 := by kernel_rfl
theorem tl_nums : ∀ n : Nat, n < 9 → ([97, 1, 2, 4, 4, 4, 28, 130, 6] : List Int).getD n 0 = tl n := by decide
theorem tabs_of_laid {W : World} (h : laidMetH Tryd.prog [("packetboat/crc.four", Rows.laid_packetboat_crc_four), ("packetboat/script.tells", Rows.laid_packetboat_script_tells)] W) : Tab W ∧ TabT W := by
  rw [MakeChecks.laidMetH_plain _ _ _ (by kernel_rfl)] at h
  have hT : Lib.TabIs Tryd.prog W "packetboat/crc.four" .u32 (tab4.map fun z : Nat => (z : Int)) := Lib.tabIs_of_head gFour tFour Tryd.underlying201 Tryd.underlying36 cU32 cFour h
  have hS : Lib.TabIs Tryd.prog W "packetboat/script.tells" .i64 [97, 1, 2, 4, 4, 4, 28, 130, 6] := Lib.tabIs_of_head gTells tTells Tryd.underlying158 Tryd.underlying3 cInt1 cTells (laidMet_tail h)
  refine ⟨fun i hi => ?_, fun i hi => ?_⟩
  · have := hT.cell gFour i.toNat (by rw [List.length_map]; exact hi)
    rw [tab_nums _ hi] at this
    exact this
  · have := hS.cell gTells i hi
    rw [tl_nums _ hi] at this
    exact this
end Go.Proofs.YtgfnpcmehnjopaaDoor
end
