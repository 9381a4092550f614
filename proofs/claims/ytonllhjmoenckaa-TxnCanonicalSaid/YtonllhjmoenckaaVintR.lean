/- Walk: the reference's Take. -/
import Derived.Test.YtonllhjmoenckaaVintZ
import Derived.Test.YtonllhjmoenckaaGrow
namespace Go.Proofs.Ytonllhjmoenckaa
section
open Go.RowKit
set_option linter.unusedVariables false
set_option linter.unusedSimpArgs false
attribute [local go_sem] Gv

def horn (a : UInt64) (c : UInt8) : UInt64 := a * 128 + UInt64.ofNat (c.toNat % 128)
theorem horn_val (a : UInt64) (c : UInt8) (t : List UInt8) (h : a = UInt64.ofNat (vval t)) : horn a c = UInt64.ofNat (vval (c :: t)) := by
  subst h
  apply UInt64.toNat_inj.1
  unfold horn
  simp only [vval, UInt64.toNat_add, UInt64.toNat_mul, UInt64.toNat_ofNat']
  show ((vval t % 18446744073709551616) * 128 % 18446744073709551616 + (c.toNat % 128) % 18446744073709551616) % 18446744073709551616 = _ % 18446744073709551616
  omega

theorem W_horn (a : UInt64) (c : UInt8) : IntKind.u64.wrap (IntKind.u64.wrap (W a * 128) + B c % 128) = W (horn a c) := by
  rw [IntKind.wrap_u64, IntKind.wrap_u64]
  unfold W B horn
  simp only [UInt64.toNat_add, UInt64.toNat_mul, UInt64.toNat_ofNat']
  show _ = ((((a.toNat * 128 % 18446744073709551616 + (c.toNat % 128) % 18446744073709551616) % 18446744073709551616 : Nat)) : Int)
  omega
attribute [local go_sem] W_horn

theorem tk_eq {l : List UInt8} {s : Nat} (hs : scan l = some s) {a : UInt64} (ha : a = UInt64.ofNat (vval (l.take (s + 1)))) (hq : vput a.toNat = l.take (s + 1)) : tkV (tk l) = .tuple #[.int .u64 (W a), .int .i64 ((s : Int) + 1), .int .i64 0] := by
  have e : vval (l.take (s + 1)) = a.toNat := by rw [← hq, vval_vput]
  rw [tk_some hs, if_pos ⟨by rw [e]; exact hq, by rw [e]; exact a.toNat_lt⟩, ← ha]
  rfl
theorem tk_ne {l : List UInt8} {s : Nat} (hs : scan l = some s) {a : UInt64} (ha : a = UInt64.ofNat (vval (l.take (s + 1)))) (hq : ¬ vput a.toNat = l.take (s + 1)) : tkV (tk l) = .tuple #[.int .u64 0, .int .i64 0, .int .i64 3] := by
  rw [tk_some hs, if_neg]
  · rfl
  · rintro ⟨h, h64⟩
    exact hq (by rw [ha, UInt64.toNat_ofNat_of_lt' h64, h])

set_option maxRecDepth 100000 in
set_option maxHeartbeats 400000 in
theorem rtake_c (v : Value) (l : List UInt8) (w : World) (h : Sb w v l) (hl : l.length ≤ 1000000000) :
    Calls Try.prog 86 #[v] w (RetV w (tkV (tk l))) := by
  obtain ⟨A, c, rfl, h1, h2⟩ := h.form
  have H := Lib.hid h
  clear h
  cases hs : scan l with
  | none =>
    rw [tk_none hs]
    have HN := Lib.hid (scan_none hs)
    clear hs
    obtain ⟨V, hV⟩ : ∃ V, tkV (if l.length < 10 then (0, 0, 2) else (0, 0, 3)) = V := ⟨_, rfl⟩
    have HV := Lib.hid hV
    rw [hV]
    clear hV
    go_enter Try.func86, Try.ntmps86
    go_wp2
    go_loopg [5, 6] (11) (fun g z i wr => ∃ k : Nat, g + k = 11 ∧ 1 ≤ g ∧ z = .int .i64 0 ∧ i = .int .i64 k ∧ wr = w)
    case atStart => exact ⟨0, rfl, by decide, rfl, rfl, rfl⟩
    case round =>
      obtain ⟨k, hk, hg, rfl, rfl, rfl⟩ := hrel
      by_cases hlt : k < l.length
      · by_cases h10 : k < 10
        · obtain ⟨ad, rfl, had⟩ := H.out.at_ k hlt
          have hb : 128 ≤ B l[k] := by have := HN.out k hlt (by omega); unfold B; omega
          go_wp2
          go_roundg (gk - 1)
          case measure => omega
          case rel => exact ⟨k + 1, by omega, by omega, rfl, by go_num, rfl⟩
        · have h10' : ¬ l.length < 10 := by omega
          go_wp2
          go_ret3
          exact ⟨by rw [← HV.out, if_neg h10']; rfl, Below.refl _ _⟩
      · by_cases h10' : l.length < 10
        · go_wp2
          go_ret3
          exact ⟨by rw [← HV.out, if_pos h10']; rfl, Below.refl _ _⟩
        · go_wp2
          go_ret3
          exact ⟨by rw [← HV.out, if_neg h10']; rfl, Below.refl _ _⟩
  | some s =>
    obtain ⟨g1, g2, g3, g4⟩ := scan_some hs
    have HS := Lib.hid hs
    have G4 := Lib.hid g4
    clear hs g4
    obtain ⟨V, hV⟩ : ∃ V, tkV (tk l) = V := ⟨_, rfl⟩
    have HV := Lib.hid hV
    rw [hV]
    clear hV
    go_enter Try.func86, Try.ntmps86
    go_wp2
    go_loopg [5, 6] (s + 1) (fun g z i wr => ∃ k : Nat, g + k = s + 1 ∧ ((1 ≤ g ∧ z = .int .i64 0) ∨ (g = 0 ∧ z = .int .i64 ((s + 1 : Nat) : Int))) ∧ i = .int .i64 k ∧ wr = w)
    case atStart => exact ⟨0, rfl, .inl ⟨by omega, rfl⟩, rfl, rfl⟩
    case round =>
      obtain ⟨k, hk, hz, rfl, rfl⟩ := hrel
      rcases hz with ⟨hg, rfl⟩ | ⟨hg, rfl⟩
      · have hlt : k < l.length := by omega
        have h10 : k < 10 := by omega
        obtain ⟨ad, rfl, had⟩ := H.out.at_ k hlt
        by_cases hks : k < s
        · have hb : 128 ≤ B l[k] := by have := G4.out k hks; unfold B; omega
          go_wp2
          go_roundg (gk - 1)
          case measure => omega
          case rel => exact ⟨k + 1, by omega, .inl ⟨by omega, rfl⟩, by go_num, rfl⟩
        · have hk' : k = s := by omega
          subst hk'
          have hb : B l[k] < 128 := by unfold B; omega
          clear g3
          go_wp2
          go_roundg 0
          case measure => omega
          case rel => exact ⟨k + 1, by omega, .inr ⟨rfl, by go_num⟩, by go_num, rfl⟩
      · have hks : k = s + 1 := by omega
        have h0 : (((s + 1 : Nat) : Int) == 0) = false := by rw [beq_eq_false_iff_ne]; omega
        have hkl : k ≤ l.length := by omega
        have hk10 : k ≤ 10 := by omega
        clear hk g3
        subst hks
        by_cases c1 : s + 1 < l.length
        all_goals
          by_cases c2 : s + 1 < 10
          all_goals
            go_wp2
            go_loopg [7, 8] (s + 1) (fun g n i wq => ∃ a : UInt64, n = .int .u64 (W a) ∧ Hid (a = UInt64.ofNat (vval ((l.take (s + 1)).drop g))) ∧ g ≤ s + 1 ∧ ((g = 0 ∧ i = .int .i64 (-1)) ∨ ∃ k : Nat, g = k + 1 ∧ i = .int .i64 k) ∧ wq = wr)
            case atStart => exact ⟨0, rfl, by unfold Hid; rw [List.drop_of_length_le (by rw [List.length_take]; omega)]; rfl, Nat.le_refl _, .inr ⟨s, rfl, rfl⟩, rfl⟩
            case round =>
              obtain ⟨a, rfl, HA, hgs, hi, rfl⟩ := hrel
              rcases hi with ⟨hg0, rfl⟩ | ⟨k, hgk, rfl⟩
              · have hA0 := HA.out
                rw [hg0, List.drop_zero] at hA0
                have HA0 := Lib.hid hA0
                clear hg0 hA0
                have h0' : (((s : Int) + 1) == 0) = false := by rw [beq_eq_false_iff_ne]; omega
                have hsc : s + 1 ≤ c := by omega
                have HT := Lib.hid (H.out.take (s + 1) (by omega))
                by_cases hq : vput a.toNat = l.take (s + 1)
                · have hv := tk_eq HS.out HA0.out hq
                  rw [HV.out] at hv
                  have HVal := Lib.hid hv
                  have hd : decide (vput a.toNat = l.take (s + 1)) = true := by simpa using hq
                  clear hv hq
                  go_wp2_with fail
                  refine wp_region_gr' (by kernel_rfl) (by kernel_rfl) ?_
                  intro ops hop
                  repeat
                    apply wpG_det
                    exact fun _ => by rw [hop.out]; rfl
                    intro us w' hE hH
                    go_simp
                    exact ⟨Gr.refl _, rfl⟩
                    intro us
                    go_simp
                    exact rfl
                  apply wpG_sat (fun u w => Sb w u (vput a.toNat)) (fun _ _ _ h hb => h.below hb)
                  exact fun _ => by rw [hop.out]; rfl
                  · intro us w' hE hH
                    go_simp
                    refine (rput_c _ w').mono ?_
                    rintro e w'' ⟨u, rfl, ho, hb⟩
                    exact ⟨u, rfl, hb, ho.sb⟩
                  intro us
                  go_simp
                  exact rfl
                  repeat
                    apply wpG_det
                    exact fun _ => by rw [hop.out]; rfl
                    intro us w' hE hH
                    go_simp
                    exact ⟨Gr.refl _, rfl⟩
                    intro us
                    go_simp
                    exact rfl
                  apply wpG_det (v := Value.slice A (s + 1) c)
                  exact fun _ => by rw [hop.out]; rfl
                  · intro us w' hE hH
                    go_simp
                    rw [if_pos (by omega)]
                    exact ⟨Gr.refl _, rfl⟩
                  intro us
                  go_simp
                  exact rfl
                  apply wpG_det (v := Value.bool true)
                  exact fun _ => by rw [hop.out]; rfl
                  · intro us w' hE hH
                    go_simp
                    refine (same_c _ _ (vput a.toNat) (l.take (s + 1)) w' (hH.1 rfl) (HT.out.below hE)).mono ?_
                    rintro e w'' ⟨rfl, hb⟩
                    exact ⟨_, rfl, hb, by rw [hd]⟩
                  intro us
                  go_simp
                  exact rfl
                  repeat
                    apply wpG_det
                    exact fun _ => by rw [hop.out]; rfl
                    intro us w' hE hH
                    go_simp
                    exact ⟨Gr.refl _, rfl⟩
                    intro us
                    go_simp
                    exact rfl
                  intro us w' hE _
                  clear hop
                  go_wp2_with fail
                  go_ret3
                  exact ⟨by rw [HVal.out]; rfl, hE⟩
                · have hv := tk_ne HS.out HA0.out hq
                  rw [HV.out] at hv
                  have HVal := Lib.hid hv
                  have hd : decide (vput a.toNat = l.take (s + 1)) = false := by simpa using hq
                  clear hv hq
                  go_wp2_with fail
                  refine wp_region_gr' (by kernel_rfl) (by kernel_rfl) ?_
                  intro ops hop
                  repeat
                    apply wpG_det
                    exact fun _ => by rw [hop.out]; rfl
                    intro us w' hE hH
                    go_simp
                    exact ⟨Gr.refl _, rfl⟩
                    intro us
                    go_simp
                    exact rfl
                  apply wpG_sat (fun u w => Sb w u (vput a.toNat)) (fun _ _ _ h hb => h.below hb)
                  exact fun _ => by rw [hop.out]; rfl
                  · intro us w' hE hH
                    go_simp
                    refine (rput_c _ w').mono ?_
                    rintro e w'' ⟨u, rfl, ho, hb⟩
                    exact ⟨u, rfl, hb, ho.sb⟩
                  intro us
                  go_simp
                  exact rfl
                  repeat
                    apply wpG_det
                    exact fun _ => by rw [hop.out]; rfl
                    intro us w' hE hH
                    go_simp
                    exact ⟨Gr.refl _, rfl⟩
                    intro us
                    go_simp
                    exact rfl
                  apply wpG_det (v := Value.slice A (s + 1) c)
                  exact fun _ => by rw [hop.out]; rfl
                  · intro us w' hE hH
                    go_simp
                    rw [if_pos (by omega)]
                    exact ⟨Gr.refl _, rfl⟩
                  intro us
                  go_simp
                  exact rfl
                  apply wpG_det (v := Value.bool false)
                  exact fun _ => by rw [hop.out]; rfl
                  · intro us w' hE hH
                    go_simp
                    refine (same_c _ _ (vput a.toNat) (l.take (s + 1)) w' (hH.1 rfl) (HT.out.below hE)).mono ?_
                    rintro e w'' ⟨rfl, hb⟩
                    exact ⟨_, rfl, hb, by rw [hd]⟩
                  intro us
                  go_simp
                  exact rfl
                  repeat
                    apply wpG_det
                    exact fun _ => by rw [hop.out]; rfl
                    intro us w' hE hH
                    go_simp
                    exact ⟨Gr.refl _, rfl⟩
                    intro us
                    go_simp
                    exact rfl
                  intro us w' hE _
                  clear hop
                  go_wp2_with fail
                  go_ret3
                  exact ⟨by rw [HVal.out]; rfl, hE⟩
              · have hlt : k < l.length := by omega
                obtain ⟨ad, rfl, had⟩ := H.out.at_ k hlt
                have hst : horn a l[k] = UInt64.ofNat (vval ((l.take (s + 1)).drop k)) := by
                  have hkl : k < (l.take (s + 1)).length := by rw [List.length_take]; omega
                  rw [List.drop_eq_getElem_cons hkl, List.getElem_take, ← hgk]
                  exact horn_val a l[k] _ HA.out
                have HST := Lib.hid hst
                clear hst
                have hb2 := B_hi l[k]
                have hb0 := B_lo l[k]
                go_wp2
                go_roundg k
                case measure => omega
                case rel =>
                  refine ⟨horn a l[k], rfl, HST.out, by omega, ?_, rfl⟩
                  cases k with
                  | zero => exact .inl ⟨rfl, by go_num⟩
                  | succ k => exact .inr ⟨k, rfl, by go_num⟩
end

section
open Go.RowKit
set_option linter.unusedVariables false
set_option linter.unusedSimpArgs false

def tkS (t : UInt64 × Nat × Int) : Value := .tuple #[.int .i64 (zagF t.1), .int .i64 (t.2.1 : Int), .int .i64 t.2.2]

set_option maxHeartbeats 400000 in
theorem takes_c (v : Value) (l : List UInt8) (w : World) (h : Sb w v l) (hl : l.length ≤ 1000000000) :
    Calls Try.prog 110 #[v] w (RetV w (tkS (tk l))) := by
  have H := Lib.hid h
  clear h
  have hk := @take_c v l
  unfold tkV at hk
  have HK := Lib.hid hk
  unfold tkS
  generalize (tk l).1 = a at *
  generalize (tk l).2.1 = b at *
  generalize (tk l).2.2 = d at *
  clear hk
  go_enter Try.func110, Try.ntmps110
  go_wp2_with (first
    | (go_at_call 85; refine (HK.out _ H.out hl).mono ?_; rintro e w1 ⟨rfl, hb1⟩)
    | (go_at_call 117; refine (zag_c _ _).mono ?_; rintro e w2 ⟨rfl, hb2⟩))
  go_ret3
  exact ⟨rfl, gthen hb1 hb2⟩

theorem puts_c (m : Int) (h1 : -9223372036854775808 ≤ m) (h2 : m < 9223372036854775808) (w : World) :
    Calls Try.prog 108 #[.int .i64 m] w (RetB w (vput (zigF m).toNat)) := by
  have H1 := Lib.hid h1
  have H2 := Lib.hid h2
  clear h1 h2
  go_enter Try.func108, Try.ntmps108
  go_wp2_with (first
    | (go_at_call 116; refine (zig_c m H1.out H2.out _).mono ?_; rintro e w1 ⟨rfl, hb1⟩)
    | (go_at_call 80; refine (Put_c _ _).mono ?_; rintro e w2 ⟨u, rfl, ho2, hb2⟩))
  go_ret
  exact ⟨_, rfl, ho2.to hb1.size, gthen hb1 hb2⟩

def wv (a : UInt64) : Value := .int .u64 (W a)
theorem wvs_one (l : List UInt64) : ∀ u ∈ l.map wv, u.oneCell' = true := by
  intro u hu
  obtain ⟨b, _, rfl⟩ := List.mem_map.1 hu
  rfl
/-- A slice of uint64. -/
def Sw (w : World) (v : Value) (l : List UInt64) : Prop := Sl w 1 v l.length (l.map wv)
theorem Sw.below {w w' : World} {v : Value} {l : List UInt64} (h : Sw w v l) (hb : Below w.heap.size w w') : Sw w' v l := Sl.below h hb
theorem Sw.at_ {w : World} {A : Option Addr} {n c : Nat} {l : List UInt64} (h : Sw w (.slice A n c) l) (k : Nat) (hk : k < l.length) :
    ∃ ad, A = some ad ∧ w.cell? (ad.add k) = some (.int .u64 (W l[k])) := by
  obtain ⟨ad, u, hA, hu, hc⟩ := Sl.at_ h k hk
  rw [List.getElem?_map, List.getElem?_eq_getElem hk] at hu
  injection hu with hu
  subst hu
  exact ⟨ad, hA, hc⟩
theorem Sw.new (w : World) (e : TypeId) (l : List UInt64) (cs : Array Value) (hc : cs.toList = l.map wv) (hl : l.length ≤ 1000000) (n : Nat) (hn : n = l.length) : Sw (w.alloc (.cells cs e)) (.slice (some ⟨w.heap.size, 0, none⟩) n n) l := by
  have hs : cs.size = l.length := by rw [← Array.length_toList, hc, List.length_map]
  subst hn
  have := Sl.new w cs e (by omega)
  rw [hs, hc] at this
  exact this

def vall (l : List UInt64) : List UInt8 := l.flatMap fun a => vput a.toNat
theorem vall_take (l : List UInt64) (k : Nat) (h : k < l.length) : vall (l.take (k + 1)) = vall (l.take k) ++ vput l[k].toNat := by
  unfold vall; rw [List.take_succ_eq_append_getElem h, List.flatMap_append]; simp
theorem vall_len (l : List UInt64) : (vall l).length ≤ 10 * l.length := by
  induction l with
  | nil => simp [vall]
  | cons a t ih =>
    have := vput_len a.toNat_lt
    unfold vall at *
    simp only [List.flatMap_cons, List.length_append, List.length_cons]
    omega

set_option maxHeartbeats 400000 in
theorem all_c (v : Value) (l : List UInt64) (w : World) (h : Sw w v l) (hl : l.length ≤ 1000000) :
    Calls Try.prog 82 #[v] w (RetB w (vall l)) := by
  obtain ⟨A, c, rfl, h1, h2⟩ := Sl.form h
  have H := Lib.hid h
  clear h
  go_enter Try.func82, Try.ntmps82
  go_wp2
  go_loopw [3, 8] (fun u i wr => ∃ k : Nat, k ≤ l.length ∧ i = .int .i64 k ∧ Hid (Ob wr w.heap.size u (vall (l.take k))) ∧ Below w.heap.size w wr) (fun _ i _ => l.length - (intOf i).toNat)
  case atStart => exact ⟨0, Nat.zero_le _, rfl, by unfold Hid; simpa [vall] using Ob.nil _ _, Below.refl _ _⟩
  case round =>
    obtain ⟨k, hk, rfl, HO, hbw⟩ := hrel
    by_cases hlt : k < l.length
    · obtain ⟨ad, rfl, had⟩ := (H.out.below hbw).at_ k hlt
      have HL := Lib.hid (vall_len (l.take k))
      have HT := Lib.hid (vall_take l k hlt)
      have hsz := hbw.size
      go_wp2_with (go_at_call 104; refine (put_c w.heap.size _ _ _ _ HO.out (by have := HL.out; rw [List.length_take] at this; omega) hsz).mono ?_; rintro e w1 ⟨u1, rfl, ho1, hb1⟩)
      go_roundw
      case rel => exact ⟨k + 1, by omega, by go_num, by unfold Hid; rw [HT.out]; exact ho1, hbw.trans hb1⟩
      case measure => simp [intOf]; omega
    · have HT : Hid (l.take k = l) := List.take_of_length_le (by omega)
      go_wp2
      go_ret
      exact ⟨_, rfl, by have := HO.out; rwa [HT.out] at this, hbw⟩
end
end Go.Proofs.Ytonllhjmoenckaa
