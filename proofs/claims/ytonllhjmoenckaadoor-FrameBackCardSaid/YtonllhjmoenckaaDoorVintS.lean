/- Walks: TakeSigned, PutSigned, All. -/
import Derived.Test.YtonllhjmoenckaaDoorVintR
namespace Go.Proofs.YtonllhjmoenckaaDoor
open Go.RowKit
set_option linter.unusedVariables false
set_option linter.unusedSimpArgs false

def tkS (t : UInt64 × Nat × Int) : Value := .tuple #[.int .i64 (zagF t.1), .int .i64 (t.2.1 : Int), .int .i64 t.2.2]

set_option maxHeartbeats 400000 in
theorem takes_c (v : Value) (l : List UInt8) (w : World) (h : Sb w v l) (hl : l.length ≤ 1000000000) :
    Calls Tryd.prog 95 #[v] w (RetV w (tkS (tk l))) := by
  have H := Lib.hid h
  clear h
  have hk := @take_c v l
  unfold tkV at hk
  have HK := Lib.hid hk
  unfold tkS
  generalize (tk l).1 = a at *
  generalize (tk l).2.1 = b at *
  generalize (tk l).2.2 = d at *
  clear hk
  go_enter Tryd.func95, Tryd.ntmps95
  go_wp2_with (first
    | (go_at_call 39; refine (HK.out _ H.out hl).mono ?_; rintro e w1 ⟨rfl, hb1⟩)
    | (go_at_call 97; refine (zag_c _ _).mono ?_; rintro e w2 ⟨rfl, hb2⟩))
  go_ret3
  exact ⟨rfl, gthen hb1 hb2⟩

theorem puts_c (m : Int) (h1 : -9223372036854775808 ≤ m) (h2 : m < 9223372036854775808) (w : World) :
    Calls Tryd.prog 86 #[.int .i64 m] w (RetB w (vput (zigF m).toNat)) := by
  have H1 := Lib.hid h1
  have H2 := Lib.hid h2
  clear h1 h2
  go_enter Tryd.func86, Tryd.ntmps86
  go_wp2_with (first
    | (go_at_call 94; refine (zig_c m H1.out H2.out _).mono ?_; rintro e w1 ⟨rfl, hb1⟩)
    | (go_at_call 37; refine (Put_c _ _).mono ?_; rintro e w2 ⟨u, rfl, ho2, hb2⟩))
  go_ret
  exact ⟨_, rfl, ho2.to hb1.size, gthen hb1 hb2⟩

def wv (a : UInt64) : Value := .int .u64 (W a)
theorem wvs_one (l : List UInt64) : ∀ u ∈ l.map wv, u.oneCell' = true := by
  intro u hu
  obtain ⟨b, _, rfl⟩ := List.mem_map.1 hu
  rfl
/-- A slice of uint64. -/
def Sw (w : World) (v : Value) (l : List UInt64) : Prop := Sl w 1 v l.length (l.map wv)
theorem Sw.below {w w' : World} {v : Value} {l : List UInt64} (h : Sw w v l) (hb : Below w.heap.size w w') : Sw w' v l := Sl.below h hb
theorem Sw.at_ {w : World} {A : Option Addr} {n c : Nat} {l : List UInt64} (h : Sw w (.slice A n c) l) (k : Nat) (hk : k < l.length) :
    ∃ ad, A = some ad ∧ w.cell? (ad.add k) = some (.int .u64 (W l[k])) := by
  obtain ⟨ad, u, hA, hu, hc⟩ := Sl.at_ h k hk
  rw [List.getElem?_map, List.getElem?_eq_getElem hk] at hu
  injection hu with hu
  subst hu
  exact ⟨ad, hA, hc⟩
theorem Sw.new (w : World) (e : TypeId) (l : List UInt64) (cs : Array Value) (hc : cs.toList = l.map wv) (hl : l.length ≤ 1000000) (n : Nat) (hn : n = l.length) : Sw (w.alloc (.cells cs e)) (.slice (some ⟨w.heap.size, 0, none⟩) n n) l := by
  have hs : cs.size = l.length := by rw [← Array.length_toList, hc, List.length_map]
  subst hn
  have := Sl.new w cs e (by omega)
  rw [hs, hc] at this
  exact this

def vall (l : List UInt64) : List UInt8 := l.flatMap fun a => vput a.toNat
theorem vall_take (l : List UInt64) (k : Nat) (h : k < l.length) : vall (l.take (k + 1)) = vall (l.take k) ++ vput l[k].toNat := by
  unfold vall; rw [List.take_succ_eq_append_getElem h, List.flatMap_append]; simp
theorem vall_len (l : List UInt64) : (vall l).length ≤ 10 * l.length := by
  induction l with
  | nil => simp [vall]
  | cons a t ih =>
    have := vput_len a.toNat_lt
    unfold vall at *
    simp only [List.flatMap_cons, List.length_append, List.length_cons]
    omega

set_option maxHeartbeats 400000 in
theorem all_c (v : Value) (l : List UInt64) (w : World) (h : Sw w v l) (hl : l.length ≤ 1000000) :
    Calls Tryd.prog 69 #[v] w (RetB w (vall l)) := by
  obtain ⟨A, c, rfl, h1, h2⟩ := Sl.form h
  have H := Lib.hid h
  clear h
  go_enter Tryd.func69, Tryd.ntmps69
  go_wp2
  go_loopw [3, 8] (fun u i wr => ∃ k : Nat, k ≤ l.length ∧ i = .int .i64 k ∧ Hid (Ob wr w.heap.size u (vall (l.take k))) ∧ Below w.heap.size w wr) (fun _ i _ => l.length - (intOf i).toNat)
  case atStart => exact ⟨0, Nat.zero_le _, rfl, by unfold Hid; simpa [vall] using Ob.nil _ _, Below.refl _ _⟩
  case round =>
    obtain ⟨k, hk, rfl, HO, hbw⟩ := hrel
    by_cases hlt : k < l.length
    · obtain ⟨ad, rfl, had⟩ := (H.out.below hbw).at_ k hlt
      have HL := Lib.hid (vall_len (l.take k))
      have HT := Lib.hid (vall_take l k hlt)
      have hsz := hbw.size
      go_wp2_with (go_at_call 64; refine (put_c w.heap.size _ _ _ _ HO.out (by have := HL.out; rw [List.length_take] at this; omega) hsz).mono ?_; rintro e w1 ⟨u1, rfl, ho1, hb1⟩)
      go_roundw
      case rel => exact ⟨k + 1, by omega, by go_num, by unfold Hid; rw [HT.out]; exact ho1, hbw.trans hb1⟩
      case measure => simp [intOf]; omega
    · have HT : Hid (l.take k = l) := List.take_of_length_le (by omega)
      go_wp2
      go_ret
      exact ⟨_, rfl, by have := HO.out; rwa [HT.out] at this, hbw⟩
end Go.Proofs.YtonllhjmoenckaaDoor
