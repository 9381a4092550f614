/- Parts of the proofs, joined: TxnR. -/
import Derived.Test.YtgfnpcmehnjopaaGreatDoorT9
import Derived.Test.YtgfnpcmehnjopaaGreatDoorT10
import Derived.Test.YtgfnpcmehnjopaaGreatDoorT11
namespace Go.Proofs.YtgfnpcmehnjopaaGreatDoor
section
open Go Go.RowKit
set_option linter.unusedVariables false
set_option linter.unusedSimpArgs false
variable {K : Nat → Obj → Prop}
abbrev rdO (b : List UInt8) (used : Nat) (e : Int) : Ho := .cells [.sl 1 (bs b), .sc (.int .i64 (used : Int)), .sc (.int .i64 e)]
set_option maxRecDepth 100000 in
set_option maxHeartbeats 1000000 in
theorem num_x (b : List UInt8) (used : Nat) (most : Int) (above : Int) {p : UInt64} {n : Nat} {er : Int} (ht : tk (b.drop used) = (p, n, er)) (hn : n ≤ b.length - used) (hl : b.length ≤ 1000000) (hu : used ≤ b.length) :
    Sp Tryz.prog K 81 [.ptr 0 0, .sc (.int .u64 most), .sc (.int .i64 above)] [rdO b used 0] fun u hh =>
      u = .sc (.int .u64 p.toNat) ∧ hh = [rdO b (used + n) (if er = 0 ∧ most < p.toNat then above else er)] := by
  refine Sp.of_bodyE Tryz.func81 rfl ?_
  intro Q hQ
  simp only [List.replicate, List.length_cons, List.length_nil, Tryz.ntmps81, Nat.reduceAdd, Nat.reduceSub, List.cons_append, List.nil_append, go_sem]
  have hz : True := trivial
  have hy := yieldedV_eq
  have hL := True.intro
  repeat' (first | (refine WPV.seqK ?_; intro N hN) | refine gA ?_ | (refine gR (M := noM) ?_; intro N hN ops hy) | (refine gD (M := noM) ?_; intro N hN; have hy := yieldedV_eq) | (refine WPV.condK ?_; intro A hA B hB) | (refine here ?_; refine sS ?_) | refine Both.mk ?_ ?_ | ((with_reducible refine CallO.gd 24 ?_); refine CallO.toB Tryz.call24 (vtake_s ht (by simp only [List.length_drop]; omega) _) ?_) | ((with_reducible refine CallP.gd 24 ?_); refine CallP.toB Tryz.call24 (vtake_s ht (by simp only [List.length_drop]; omega) _) ?_) | (refine hN _ ?_; try clear hN N; try clear hy ops) | (refine hA ?_; clear hA A hB B; try simp only [hz]) | (refine hB ?_; clear hA A hB B; try simp only [hz]) | (refine gG ?_ ?_ <;> (intro hz; have h := nm hz; try (exfalso; omega)) <;> (have hz := nz hz; try subst hz)) | (rw [if_pos (show _ ∧ _ from ⟨by omega, by omega⟩)]; refine sS ?_) | refine gT ?_ | (clear hN N))
  all_goals (first | exact retZ hQ Tryz.results81 (Desc.re [some 0] rfl) | exact retZN hQ Tryz.results81 (Desc.re [some 0] rfl))
theorem num_e (b : List UInt8) (used : Nat) (most : Int) (above : Int) (e : Int) (he : e ≠ 0) :
    Sp Tryz.prog K 81 [.ptr 0 0, .sc (.int .u64 most), .sc (.int .i64 above)] [rdO b used e] fun u hh => u = .sc (.int .u64 0) ∧ hh = [rdO b used e] := by
  refine Sp.of_bodyE Tryz.func81 rfl ?_
  intro Q hQ
  simp only [List.replicate, List.length_cons, List.length_nil, Tryz.ntmps81, Nat.reduceAdd, Nat.reduceSub, List.cons_append, List.nil_append, go_sem]
  have ht : True := trivial
  have hz : True := trivial
  have hy := yieldedV_eq
  have hL := True.intro
  repeat' (first | (refine WPV.seqK ?_; intro N hN) | refine gA ?_ | (refine gR (M := noM) ?_; intro N hN ops hy) | (refine gD (M := noM) ?_; intro N hN; have hy := yieldedV_eq) | (refine WPV.condK ?_; intro A hA B hB) | (refine here ?_; refine sS ?_) | refine Both.mk ?_ ?_ | ((with_reducible refine CallO.gd 24 ?_); refine CallO.toB Tryz.call24 (vtake_s ht (by simp only [List.length_drop]; omega) _) ?_) | ((with_reducible refine CallP.gd 24 ?_); refine CallP.toB Tryz.call24 (vtake_s ht (by simp only [List.length_drop]; omega) _) ?_) | (refine hN _ ?_; try clear hN N; try clear hy ops) | (refine hA ?_; clear hA A hB B; try simp only [hz]) | (refine hB ?_; clear hA A hB B; try simp only [hz]) | (refine gG ?_ ?_ <;> (intro hz; have h := nm hz; try (exfalso; omega)) <;> (have hz := nz hz; try subst hz)) | (rw [if_pos (show _ ∧ _ from ⟨by omega, by omega⟩)]; refine sS ?_) | refine gT ?_ | (clear hN N))
  all_goals (first | exact retZ hQ Tryz.results81 (Desc.re [some 0] rfl) | exact retZN hQ Tryz.results81 (Desc.re [some 0] rfl))
theorem num_s (b : List UInt8) (used : Nat) (e0 : Int) (most : Nat) (above : Int) (hl : b.length ≤ 1000000) (hu : used ≤ b.length) {n u : Nat} {e : Int} (h : numG b used e0 most above = (n, u, e)) :
    Sp Tryz.prog K 81 [.ptr 0 0, .sc (.int .u64 (most : Int)), .sc (.int .i64 above)] [rdO b used e0] fun v hh => v = .sc (.int .u64 (n : Int)) ∧ hh = [rdO b u e] := by
  unfold numG at h
  by_cases h0 : e0 = 0
  · subst h0
    rw [if_neg (by simp)] at h
    obtain ⟨p, m, er, ht⟩ : ∃ p m er, tk (b.drop used) = (p, m, er) := ⟨_, _, _, rfl⟩
    have hm := tk_le (b.drop used)
    rw [ht, List.length_drop] at hm
    have := num_x (K := K) b used most above ht hm hl hu
    rw [ht] at h
    dsimp only at h
    cases h
    have e2 : ((most : Int) < (p.toNat : Int)) = (most < p.toNat) := propext (by omega)
    simp only [e2] at this
    exact this
  · rw [if_pos h0] at h
    cases h
    exact num_e b _ _ _ _ h0
theorem numG_ok {b : List UInt8} {used most : Nat} {e0 above : Int} {n u : Nat} {e : Int} (hu : used ≤ b.length) (ha : above ≠ 0) (h : numG b used e0 most above = (n, u, e)) : used ≤ u ∧ u ≤ b.length ∧ (e = 0 → e0 = 0 ∧ n ≤ most) ∧ (e0 ≠ 0 → n = 0) ∧ n < 18446744073709551616 := by
  have hm := tk_le (b.drop used)
  rw [List.length_drop] at hm
  unfold numG at h
  by_cases h0 : e0 = 0
  · rw [if_neg (by simpa using h0)] at h
    simp only [Prod.mk.injEq] at h
    obtain ⟨rfl, rfl, rfl⟩ := h
    refine ⟨by omega, by omega, fun h2 => ⟨h0, ?_⟩, fun h => absurd h0 h, UInt64.toNat_lt _⟩
    split at h2
    · exact absurd h2 ha
    · omega
  · rw [if_pos h0] at h
    simp only [Prod.mk.injEq] at h
    obtain ⟨rfl, rfl, rfl⟩ := h
    exact ⟨by omega, hu, fun h => absurd h h0, fun _ => rfl, by omega⟩
theorem sub_e (b : List UInt8) (a n : Nat) : (⟨((b.take (a + n)).drop a).toArray⟩ : ByteArray) = subT b a n := by
  unfold subT; rw [List.drop_take, show a + n - a = n by omega]
set_option maxRecDepth 100000 in
set_option maxHeartbeats 1000000 in
theorem text_s (b : List UInt8) (used n : Nat) (hl : b.length ≤ 1000000) (hu : used ≤ b.length) (hn : n ≤ 1000) :
    Sp Tryz.prog K 97 [.ptr 0 0, .sc (.int .i64 (n : Int))] [rdO b used 0] fun v hh =>
      v = .sc (.string (if b.length < used + n then ⟨#[]⟩ else subT b used n)) ∧ hh = [rdO b (if b.length < used + n then used else used + n) (if b.length < used + n then 2 else 0)] := by
  have hs : (⟨(List.drop ((used : Int) + (n : Int) - (n : Int)).toNat (List.take ((used : Int) + (n : Int)).toNat b)).toArray⟩ : ByteArray) = subT b used n := by
    rw [show ((used : Int) + (n : Int) - (n : Int)).toNat = used by omega, show ((used : Int) + (n : Int)).toNat = used + n by omega, sub_e]
  refine Sp.of_bodyE Tryz.func97 rfl ?_
  intro Q hQ
  simp only [List.replicate, List.length_cons, List.length_nil, Tryz.ntmps97, Nat.reduceAdd, Nat.reduceSub, List.cons_append, List.nil_append, go_sem]
  have hz : True := trivial
  have hy := yieldedV_eq
  have hL := And.intro @bs_unbs (@hs)
  repeat' (first | (refine WPV.seqK ?_; intro N hN) | refine gA ?_ | (refine gR (M := noM) ?_; intro N hN ops hy) | (refine gD (M := noM) ?_; intro N hN; have hy := yieldedV_eq) | (refine WPV.condK ?_; intro A hA B hB) | (refine here ?_; refine sS ?_) | refine Both.mk ?_ ?_ | (refine hN _ ?_; try clear hN N; try clear hy ops) | (refine hA ?_; clear hA A hB B; try simp only [hz]) | (refine hB ?_; clear hA A hB B; try simp only [hz]) | (refine gG ?_ ?_ <;> (intro hz; have h := nm hz; try (exfalso; omega)) <;> (have hz := nz hz; try subst hz)) | (rw [if_pos (show _ ∧ _ from ⟨by omega, by omega⟩)]; refine sS ?_) | refine gT ?_ | (clear hN N))
  all_goals (first | exact retZ hQ Tryz.results97 (Desc.re [some 0] rfl) | exact retZN hQ Tryz.results97 (Desc.re [some 0] rfl))
theorem dtake_sz (d : Di) (b : List UInt8) : 0 ≤ (d.take b).1.2.1 ∧ (d.take b).1.2.1 ≤ b.length := by
  unfold Di.take
  have h0 := tk_le b
  split
  · simp
  · rename_i p u h
    split
    · simp
    · unfold dkOf at h
      split at h <;> try cases h
      split at h <;> try cases h
      · dsimp only; omega
      split at h <;> try cases h
      split at h <;> try cases h
      split at h <;> cases h
  · rename_i s u h
    split
    · simp
    · unfold dkOf at h
      split at h <;> try cases h
      split at h <;> try cases h
      split at h <;> try cases h
      split at h <;> try cases h
      split at h <;> try cases h
      dsimp only; omega
def dtF (d : Di) (b : List UInt8) : Tk × Di := d.take b
theorem text_t (b : List UInt8) (used n : Nat) (x e0 : Int) (hl : b.length ≤ 1000000) (hu : used ≤ b.length) (hn : n ≤ 1000) (hx : x = n) (he : e0 = 0) :
    Sp Tryz.prog K 97 [.ptr 0 0, .sc (.int .i64 x)] [rdO b used e0] fun v hh =>
      v = .sc (.string (if b.length < used + n then ⟨#[]⟩ else subT b used n)) ∧ hh = [rdO b (if b.length < used + n then used else used + n) (if b.length < used + n then 2 else 0)] := by
  subst hx; subst he; exact text_s b used n hl hu hn
set_option maxRecDepth 100000 in
set_option maxHeartbeats 1000000 in
theorem write_x (b : List UInt8) (used : Nat) (d : Di) (hl : b.length ≤ 1000000) (hu : used ≤ b.length) (ok : d.Ok) {k : ByteArray} {sz : Nat} {er : Int} {d' : Di} (hd : d.take (b.drop used) = ((k, (sz : Int), er), d')) {n u : Nat} {e : Int} (hn : numG b (used + sz) er 257 4 = (n, u, e)) :
    Sp Tryz.prog K 83 [.ptr 0 0, .ptr 1 0] (rdO b used 0 :: [.cells [.hs true 1 2 0 d.ks.length, .mp 3, .sc (.int .i64 (d.e : Int))], .cells (kc d.ks), .map (pm d.c d.l)]) fun v hh =>
      v = wrV (wtakeF dtF b used d).1.1 ∧ hh = rdO b (wtakeF dtF b used d).1.2.1 (wtakeF dtF b used d).1.2.2 :: [.cells [.hs true 1 4 0 d'.ks.length, .mp 5, .sc (.int .i64 (d'.e : Int))], .dead, .dead, .cells (kc d'.ks), .map (pm d'.c d'.l)] := by
  have hz1 := dtake_sz d (b.drop used)
  rw [hd, List.length_drop] at hz1
  dsimp only at hz1
  have cd := dtake4_s (K := K) d (b.drop used) (by rw [List.length_drop]; omega) ok.sta ok.len ok.e8
  rw [hd] at cd
  dsimp only at cd
  have cn := num_s (K := K) b (used + sz) er 257 4 hl (by omega) hn
  obtain ⟨hn1, hn2, hn3, hn4, hn5⟩ := numG_ok (by omega) (by decide) hn
  simp only [Int.natCast_add, Int.cast_ofNat_Int] at cn
  have e1 : wtakeF dtF b used d = if e ≠ 0 ∨ n = 0 then ((⟨k, ⟨#[]⟩, true⟩, u, e), d') else if b.length < u + (n - 1) then ((⟨k, ⟨#[]⟩, false⟩, u, 2), d') else ((⟨k, subT b u (n - 1), false⟩, u + (n - 1), 0), d') := by
    unfold wtakeF dtF
    simp only [hd, Int.toNat_natCast, hn]
  rw [e1]
  refine Sp.of_bodyE Tryz.func83 rfl ?_
  intro Q hQ
  simp only [List.replicate, List.length_cons, List.length_nil, Tryz.ntmps83, Nat.reduceAdd, Nat.reduceSub, List.cons_append, List.nil_append, go_sem]
  have hz : True := trivial
  have hy := yieldedV_eq
  have hL := True.intro
  repeat' (first | (refine WPV.seqK ?_; intro N hN) | refine gA ?_ | (refine gR (M := noM) ?_; intro N hN ops hy) | (refine gD (M := noM) ?_; intro N hN; have hy := yieldedV_eq) | (refine WPV.condK ?_; intro A hA B hB) | (refine here ?_; refine sS ?_) | refine Both.mk ?_ ?_ | ((with_reducible refine CallO.gd 96 ?_); refine CallO.frB [1, 2, 3] Tryz.call96 (cd) ?_) | ((with_reducible refine CallO.gd 81 ?_); refine CallO.frB [0] Tryz.call81 (cn) ?_) | ((with_reducible refine CallO.gd 97 ?_); refine CallO.frB [0] Tryz.call97 (text_t b u (n - 1) ((n : Int) - 1) e hl hn2 (by omega) (by omega) (by omega)) ?_) | ((with_reducible refine CallP.gd 96 ?_); refine CallP.frB [1, 2, 3] 2 Tryz.call96 (cd) ?_) | (refine hN _ ?_; try clear hN N; try clear hy ops) | (refine hA ?_; clear hA A hB B; try simp only [hz]) | (refine hB ?_; clear hA A hB B; try simp only [hz]) | (refine gG ?_ ?_ <;> (intro hz; have h := nm hz; try (exfalso; omega)) <;> (have hz := nz hz; try subst hz)) | (rw [if_pos (show _ ∧ _ from ⟨by omega, by omega⟩)]; refine sS ?_) | refine gT ?_ | (clear hN N))
  all_goals (first | exact retZ hQ Tryz.results83 (Desc.re [some 0, some 1, none, none, some 5, some 6] rfl) | exact retZN hQ Tryz.results83 (Desc.re [some 0, some 1, none, none, some 5, some 6] rfl))
theorem write_s (b : List UInt8) (used : Nat) (d d' : Di) (a : Wr) (u : Nat) (e : Int) (hl : b.length ≤ 1000000) (hu : used ≤ b.length) (ok : d.Ok) (h : wtakeF dtF b used d = ((a, u, e), d')) :
    (Sp Tryz.prog K 83 [.ptr 0 0, .ptr 1 0] (rdO b used 0 :: [.cells [.hs true 1 2 0 d.ks.length, .mp 3, .sc (.int .i64 (d.e : Int))], .cells (kc d.ks), .map (pm d.c d.l)]) fun v hh =>
      v = wrV a ∧ hh = rdO b u e :: [.cells [.hs true 1 4 0 d'.ks.length, .mp 5, .sc (.int .i64 (d'.e : Int))], .dead, .dead, .cells (kc d'.ks), .map (pm d'.c d'.l)]) ∧ u ≤ b.length ∧ d'.Ok := by
  have hz1 := dtake_sz d (b.drop used)
  have hok := ok.take (b.drop used)
  obtain ⟨k, sz, er, d2, hd⟩ : ∃ k sz er d2, d.take (b.drop used) = ((k, sz, er), d2) := ⟨_, _, _, _, rfl⟩
  rw [hd] at hz1 hok
  rw [List.length_drop] at hz1
  dsimp only at hz1 hok
  obtain ⟨z, rfl⟩ : ∃ z : Nat, sz = z := ⟨sz.toNat, by omega⟩
  obtain ⟨n, u2, e2, hn⟩ : ∃ n u2 e2, numG b (used + z) er 257 4 = (n, u2, e2) := ⟨_, _, _, rfl⟩
  obtain ⟨hn1, hn2, _⟩ := numG_ok (by omega) (by decide) hn
  have e1 : wtakeF dtF b used d = if e2 ≠ 0 ∨ n = 0 then ((⟨k, ⟨#[]⟩, true⟩, u2, e2), d2) else if b.length < u2 + (n - 1) then ((⟨k, ⟨#[]⟩, false⟩, u2, 2), d2) else ((⟨k, subT b u2 (n - 1), false⟩, u2 + (n - 1), 0), d2) := by
    unfold wtakeF dtF
    simp only [hd, Int.toNat_natCast, hn]
  have hh := write_x (K := K) b used d hl hu ok hd hn
  rw [h] at hh e1
  split at e1
  · cases e1; exact ⟨hh, hn2, hok⟩
  · split at e1
    · cases e1; exact ⟨hh, hn2, hok⟩
    · cases e1; exact ⟨hh, by omega, hok⟩
end
section
open Go Go.RowKit
set_option linter.unusedVariables false
set_option linter.unusedSimpArgs false
variable {K : Nat → Obj → Prop}
def Cod.inn (x : Cod Di) : List Ho := [.cells [.ptr 1 0, .sc (.int .i64 x.c.x), .sc (.int .i64 x.c.y), .sc (.int .i64 x.c.z)], .cells [.hs true 1 2 0 x.d.ks.length, .mp 3, .sc (.int .i64 (x.d.e : Int))], .cells (kc x.d.ks), .map (pm x.d.c x.d.l)]
def Cod.out (x : Cod Di) : List Ho := [.cells [.ptr 1 0, .sc (.int .i64 x.c.x), .sc (.int .i64 x.c.y), .sc (.int .i64 x.c.z)], .cells [.hs true 1 4 0 x.d.ks.length, .mp 5, .sc (.int .i64 (x.d.e : Int))], .dead, .dead, .cells (kc x.d.ks), .map (pm x.d.c x.d.l)]
def Cod.tout (x : Cod Di) : List Ho := [.cells [.ptr 4 0, .sc (.int .i64 x.c.x), .sc (.int .i64 x.c.y), .sc (.int .i64 x.c.z)], .dead, .dead, .dead, .cells [.hs true 1 5 0 x.d.ks.length, .mp 6, .sc (.int .i64 (x.d.e : Int))], .cells (kc x.d.ks), .map (pm x.d.c x.d.l)]
attribute [go_sem] Cod.inn Cod.out Cod.tout
def Cod.new : Cod Di := ⟨⟨0, 0, 0⟩, Di.new⟩
set_option maxRecDepth 100000 in
set_option maxHeartbeats 1000000 in
theorem cnew_s : Sp Tryz.prog K 64 [] [] fun u hh => u = .ptr 0 0 ∧ hh = Cod.new.inn := by
  refine Sp.of_bodyE Tryz.func64 rfl ?_
  intro Q hQ
  simp only [List.replicate, List.length_cons, List.length_nil, Tryz.ntmps64, Nat.reduceAdd, Nat.reduceSub, List.cons_append, List.nil_append, go_sem]
  have hz : True := trivial
  have hy := yieldedV_eq
  have hL := True.intro
  repeat' (first | (refine WPV.seqK ?_; intro N hN) | refine gA ?_ | (refine gR (M := noM) ?_; intro N hN ops hy) | (refine gD (M := noM) ?_; intro N hN; have hy := yieldedV_eq) | (refine WPV.condK ?_; intro A hA B hB) | (refine here ?_; refine sS ?_) | refine Both.mk ?_ ?_ | ((with_reducible refine CallO.gd 77 ?_); refine CallO.frB [] Tryz.call77 (dnew_s) ?_) | (refine hN _ ?_; try clear hN N; try clear hy ops) | (refine hA ?_; clear hA A hB B; try simp only [hz]) | (refine hB ?_; clear hA A hB B; try simp only [hz]) | (refine gG ?_ ?_ <;> (intro hz; have h := nm hz; try (exfalso; omega)) <;> (have hz := nz hz; try subst hz)) | (rw [if_pos (show _ ∧ _ from ⟨by omega, by omega⟩)]; refine sS ?_) | refine gT ?_ | (clear hN N))
  all_goals (try unfold Cod.new at hQ)
  all_goals (first | exact retZ hQ Tryz.results64 (Desc.re [some 3, some 0, some 1, some 2] rfl) | exact retZN hQ Tryz.results64 (Desc.re [some 3, some 0, some 1, some 2] rfl))
theorem put_len {d : Di} (ok : d.Ok) (k : ByteArray) : (d.put k).1.1.length ≤ 100 := by
  unfold Di.put
  split
  · simp
  · split
    · have := vput_len (n := (d.at_ k + 1).toNat) (by have := ok.at8 k; omega)
      dsimp only; omega
    · have h1 := vput_len (n := k.size) (by omega)
      have h2 := vput_len (n := 0) (by omega)
      simp only [List.length_append, size_toList]; omega
theorem wputF_cons {α : Type} (p : α → ByteArray → List UInt8 × α) (d : α) (a : Wr) (l : List Wr) : wputF p d (a :: l) = ((p d a.k).1 ++ a.val ++ (wputF p (p d a.k).2 l).1, (wputF p (p d a.k).2 l).2) := rfl
theorem check_ok {t : Tx} (h : checkF t = 0) : (0 ≤ t.o ∧ t.o ≤ 2) ∧ (1 ≤ t.s ∧ t.s ≤ 4611686018427387903) ∧ rightF t.c = true ∧ t.w.length ≤ 16 ∧ (∀ a ∈ t.w, a.k.size ≤ 64 ∧ a.v.size ≤ 256 ∧ (a.g = true → a.v = ByteArray.empty)) ∧ t.c.at_ t.o = t.s - 1 := by
  unfold checkF at h
  split at h
  · exact absurd h (by decide)
  split at h
  · exact absurd h (by decide)
  split at h
  · exact absurd h (by decide)
  split at h
  · exact absurd h (by decide)
  split at h
  · exact absurd h (by decide)
  rename_i h1 h2 h3 h4 h5
  simp only [not_or] at h1 h2 h4
  refine ⟨by omega, by omega, by simpa using h2.2.2, by omega, fun a ha => ?_, by simpa using h3⟩
  have h6 := List.any_eq_false.1 (by simpa using h4.2) a ha
  have h7 := List.any_eq_false.1 (by simpa using h5) a ha
  simp [Wr.long] at h6
  simp [Wr.odd] at h7
  exact ⟨by omega, by omega, h7⟩
theorem cputF_len (p c : Clk) : (cputF p c).1.length ≤ 30 := by
  unfold cputF
  split
  · have h1 := zz_len (c.x - p.x)
    have h2 := zz_len (c.y - p.y)
    have h3 := zz_len (c.z - p.z)
    simp only [List.length_append]; omega
  · simp
structure WJ (w : List Wr) (d0 : Di) (h : List UInt8) (k : Nat) (b : List UInt8) (d : Di) : Prop where
  hk : k ≤ w.length
  ok : d.Ok
  len : b.length ≤ h.length + 1000 * k
  eq : h ++ (wputF dpF d0 w).1 = b ++ (wputF dpF d (w.drop k)).1
  ed : (wputF dpF d0 w).2 = (wputF dpF d (w.drop k)).2
theorem WJ.nxt {w : List Wr} {d0 : Di} {h : List UInt8} {k : Nat} {b : List UInt8} {d d' : Di} {p : List UInt8 × Int} {a : Wr} (j : WJ w d0 h k b d) (hk : k < w.length) (ha : w[k] = a) (hs : a.v.size ≤ 256) (hp : d.put a.k = (p, d')) : WJ w d0 h (k + 1) (b ++ p.1 ++ a.val) d' := by
  have e : wputF dpF d (w.drop k) = (p.1 ++ a.val ++ (wputF dpF d' (w.drop (k + 1))).1, (wputF dpF d' (w.drop (k + 1))).2) := by
    rw [List.drop_eq_getElem_cons hk, ha]
    rw [wputF_cons]
    simp only [dpF, hp]
  have l1 := put_len j.ok a.k
  rw [hp] at l1
  have l2 : a.val.length ≤ 300 := by
    unfold Wr.val
    split
    · simp
    · have := vput_len (n := a.v.size + 1) (by omega)
      simp only [List.length_append, size_toList]; omega
  have l0 := j.len
  refine ⟨hk, j.ok.pe hp, by simp only [List.length_append]; dsimp only at l1; omega, ?_, ?_⟩
  · rw [j.eq, e]; simp
  · rw [j.ed, e]
set_option maxRecDepth 100000 in
set_option maxHeartbeats 2000000 in
theorem cput_x (x : Cod Di) (t : Tx) (ok : x.d.Ok) (hl : t.w.length ≤ 9223372036854775807) : Sp Tryz.prog K 65 [.ptr 0 0, txV t] x.inn fun u hh => u = byV (tputF dpF x t).1 ∧ hh = (tputF dpF x t).2.out := by
  have ck := tcheck_s (K := K) t hl
  obtain ⟨o, s, c, w⟩ := t
  have cp := fun h => cput_s (K := K) x.c c h
  have cpl := cputF_len x.c c
  obtain ⟨⟨x1, x2, x3⟩, d⟩ := x
  obtain ⟨y1, y2, y3⟩ := c
  dsimp only [clkV, txV] at ck cp ok hl cpl ⊢
  by_cases hc : checkF ⟨o, s, ⟨y1, y2, y3⟩, w⟩ ≠ 0
  · have e : tputF dpF ⟨⟨x1, x2, x3⟩, d⟩ ⟨o, s, ⟨y1, y2, y3⟩, w⟩ = (([], checkF ⟨o, s, ⟨y1, y2, y3⟩, w⟩), ⟨⟨x1, x2, x3⟩, d⟩) := by unfold tputF; rw [if_pos hc]
    rw [e]
    generalize checkF ⟨o, s, ⟨y1, y2, y3⟩, w⟩ = q at *
    refine Sp.of_bodyE Tryz.func65 rfl ?_
    intro Q hQ
    simp only [List.replicate, List.length_cons, List.length_nil, Tryz.ntmps65, Nat.reduceAdd, Nat.reduceSub, List.cons_append, List.nil_append, go_sem]
    have hz : True := trivial
    have hy := yieldedV_eq
    have hL := True.intro
    repeat' (first | (refine WPV.seqK ?_; intro N hN) | refine gA ?_ | (refine gR (M := noM) ?_; intro N hN ops hy) | (refine gD (M := noM) ?_; intro N hN; have hy := yieldedV_eq) | (refine WPV.condK ?_; intro A hA B hB) | (refine here ?_; refine sS ?_) | refine Both.mk ?_ ?_ | ((with_reducible refine CallO.gd 60 ?_); refine CallO.frB [] Tryz.call60 (ck) ?_) | (refine hN _ ?_; try clear hN N; try clear hy ops) | (refine hA ?_; clear hA A hB B; try simp only [hz]) | (refine hB ?_; clear hA A hB B; try simp only [hz]) | (refine gG ?_ ?_ <;> (intro hz; have h := nm hz; try (exfalso; omega)) <;> (have hz := nz hz; try subst hz)) | (rw [if_pos (show _ ∧ _ from ⟨by omega, by omega⟩)]; refine sS ?_) | refine gT ?_ | (clear hN N))
    all_goals (try unfold byV at hQ)
    all_goals (first | exact retZ hQ Tryz.results65 (Desc.re [some 0, some 1, none, none, some 2, some 3] rfl) | exact retZN hQ Tryz.results65 (Desc.re [some 0, some 1, none, none, some 2, some 3] rfl))
  · have hc := Decidable.not_not.1 hc
    obtain ⟨⟨o1, o2⟩, ⟨s1, s2⟩, hr, hw, ha, _⟩ := check_ok hc
    have e : tputF dpF ⟨⟨x1, x2, x3⟩, d⟩ ⟨o, s, ⟨y1, y2, y3⟩, w⟩ = ((Tx.headF ⟨x1, x2, x3⟩ ⟨o, s, ⟨y1, y2, y3⟩, w⟩ ++ (wputF dpF d w).1, 0), ⟨⟨y1, y2, y3⟩, (wputF dpF d w).2⟩) := by unfold tputF; rw [if_neg (by rw [hc]; simp)]
    rw [e]
    rw [hc] at ck
    dsimp only at o1 o2 s1 s2 hw ha hr
    generalize hcp : cputF ⟨x1, x2, x3⟩ ⟨y1, y2, y3⟩ = cpf at cp cpl
    have lo := vput_len (n := o.toNat) (by omega)
    have ls := vput_len (n := s.toNat) (by omega)
    have lw := vput_len (n := w.length) (by omega)
    have hh : Tx.headF ⟨x1, x2, x3⟩ ⟨o, s, ⟨y1, y2, y3⟩, w⟩ = vput o.toNat ++ vput s.toNat ++ cpf.1 ++ vput w.length := by unfold Tx.headF; rw [← hcp]
    have hhl : (Tx.headF ⟨x1, x2, x3⟩ ⟨o, s, ⟨y1, y2, y3⟩, w⟩).length ≤ 60 := by rw [hh]; simp only [List.length_append]; omega
    rw [hh] at hhl ⊢
    clear e hh
    refine Sp.of_bodyE Tryz.func65 rfl ?_
    intro Q hQ
    simp only [List.replicate, List.length_cons, List.length_nil, Tryz.ntmps65, Nat.reduceAdd, Nat.reduceSub, List.cons_append, List.nil_append, go_sem]
    have hz : True := trivial
    have hy := yieldedV_eq
    have hL := True.intro
    repeat' (first | (refine WPV.seqK ?_; intro N hN) | refine gA ?_ | (refine gR (M := noM) ?_; intro N hN ops hy) | (refine gD (M := noM) ?_; intro N hN; have hy := yieldedV_eq) | (refine WPV.condK ?_; intro A hA B hB) | (refine here ?_; refine sS ?_) | refine Both.mk ?_ ?_ | ((with_reducible refine CallO.gd 60 ?_); refine CallO.frB [] Tryz.call60 (ck) ?_) | ((with_reducible refine CallO.gd 19 ?_); refine CallO.frB [] Tryz.call19 (vall2O_s (a := o) (b := s) ⟨by omega, by omega⟩ ⟨by omega, by omega⟩) ?_) | ((with_reducible refine CallO.gd 45 ?_); refine CallO.toB Tryz.call45 (vput_s (m := (w.length : Int)) (by omega) (by omega) _) ?_) | ((with_reducible refine CallO.gd 78 ?_); refine CallO.toB Tryz.call78 (cp _) ?_) | ((with_reducible refine CallP.gd 45 ?_); refine CallP.toB Tryz.call45 (vput_s (m := (w.length : Int)) (by omega) (by omega) _) ?_) | ((with_reducible refine CallP.gd 78 ?_); refine CallP.toB Tryz.call78 (cp _) ?_) | (refine hN _ ?_; try clear hN N; try clear hy ops) | (refine hA ?_; clear hA A hB B; try simp only [hz]) | (refine hB ?_; clear hA A hB B; try simp only [hz]) | (refine gG ?_ ?_ <;> (intro hz; have h := nm hz; try (exfalso; omega)) <;> (have hz := nz hz; try subst hz)) | (rw [if_pos (show _ ∧ _ from ⟨by omega, by omega⟩)]; refine sS ?_) | refine gT ?_ | (clear hN N))
    generalize vput o.toNat ++ vput s.toNat ++ cpf.1 ++ vput w.length = hd at *
    refine WPV.loopW (α := Nat × List UInt8 × Di) (fun s => w.length - s.1) (fun q => ⟨[.ptr 0 0, .any, .any, .ptr 4 0, .any, .any, .any, .own 1 (bs q.2.1) 7, .any, .any, .any, .any, .any, .any, .any, .any, .any, .any, .any, .any, .any, .any, .any, .any, .any, .any, .any, .any, .any, .any, .any, .any, .any, .any, .any, .any, .any, .any, .any, .any, .any, .any, .any, .any, .any, .any, .any, .any, .sl 3 (wrl w), .sc (.int .i64 (w.length : Int)), .sc (.int .i64 ((q.1 : Nat) : Int)), .any, .any, .any, .any, .any, .any, .any, .any, .any, .any, .any, .any, .any, .any, .any, .any, .any, .any, .any, .any, .any, .any, .any, .any, .any, .any, .any, .any, .any, .any, .any, .any, .any, .any, .any, .any, .any, .any, .any, .any], [.cells [.ptr 1 0, .sc (.int .i64 x1), .sc (.int .i64 x2), .sc (.int .i64 x3)], .cells [.hs true 1 5 0 q.2.2.ks.length, .mp 6, .sc (.int .i64 (q.2.2.e : Int))], .dead, .dead, .cells [.sc (.int .i64 o), .sc (.int .i64 s), .sc (.int .i64 y1), .sc (.int .i64 y2), .sc (.int .i64 y3), .sl 3 (wrl w)], .cells (kc q.2.2.ks), .map (pm q.2.2.c q.2.2.l), .tail]⟩) (fun q => WJ w d hd q.1 q.2.1 q.2.2) (0, hd, d) ((Desc.re [some 0, some 1, none, none, some 4, some 2, some 3, some 7] rfl).trans Desc.weakA) ⟨Nat.zero_le _, ok, by simp, rfl, rfl⟩ (fun q hJ H => ?_)
    obtain ⟨k, b, d2⟩ := q
    dsimp only at hJ H ⊢
    obtain ⟨j1, j2, j3, j4, j5⟩ := id hJ
    by_cases h : k < w.length
    · obtain ⟨a, hget⟩ : ∃ a, w[k] = a := ⟨_, rfl⟩
      have hget2 : w[k]? = some a := by rw [← hget]; exact List.getElem?_eq_getElem h
      obtain ⟨a1, a2, a3⟩ := ha a (hget ▸ List.getElem_mem h)
      obtain ⟨p, d3, hp⟩ : ∃ p d3, d2.put a.k = (p, d3) := ⟨_, _, rfl⟩
      have pl := put_len j2 a.k
      rw [hp] at pl
      dsimp only at pl
      have lv := vput_len (n := a.v.size + 1) (by omega)
      have lv2 := size_toList a.v
      have hv1 : ((a.v.size : Int) + 1).toNat = a.v.size + 1 := by omega
      have H' := H (k + 1, b ++ p.1 ++ a.val, d3) (hJ.nxt h hget a2 hp) (by dsimp only; omega)
      clear H
      dsimp only at H'
      obtain ⟨ak, av, ag⟩ := a
      dsimp only at hp pl lv lv2 hv1 H' a1 a2 a3
      cases ag with
      | true =>
        refine loopV ?_
        have hz : True := trivial
        have hy := yieldedV_eq
        have hL := And.intro @hget2 (@hv1)
        repeat' (first | (refine WPV.seqK ?_; intro N hN) | refine gA ?_ | (refine gR (M := noM) ?_; intro N hN ops hy) | (refine gD (M := noM) ?_; intro N hN; have hy := yieldedV_eq) | (refine WPV.condK ?_; intro A hA B hB) | (refine here ?_; refine sS ?_) | refine Both.mk ?_ ?_ | ((with_reducible refine CallO.gd 79 ?_); refine CallO.frB [1, 5, 6] Tryz.call79 (dput_e hp j2) ?_) | ((with_reducible refine CallO.gd 45 ?_); refine CallO.toB Tryz.call45 (vput_s (m := (av.size : Int) + 1) (by omega) (by omega) _) ?_) | ((with_reducible refine CallP.gd 79 ?_); refine CallP.frB [1, 5, 6] 2 Tryz.call79 (dput_e hp j2) ?_) | ((with_reducible refine CallP.gd 45 ?_); refine CallP.toB Tryz.call45 (vput_s (m := (av.size : Int) + 1) (by omega) (by omega) _) ?_) | (refine hN _ ?_; try clear hN N; try clear hy ops) | (refine hA ?_; clear hA A hB B; try simp only [hz]) | (refine hB ?_; clear hA A hB B; try simp only [hz]) | (refine gG ?_ ?_ <;> (intro hz; have h := nm hz; try (exfalso; omega)) <;> (have hz := nz hz; try subst hz)) | (rw [if_pos (show _ ∧ _ from ⟨by omega, by omega⟩)]; refine sS ?_) | refine gT ?_ | (clear hN N))
        have hL := @wrval_t
        all_goals (exact rndZ (Desc.re [some 0, some 1, none, none, some 4, some 9, some 10, some 12] rfl) (H'))
      | false =>
        refine loopV ?_
        have hz : True := trivial
        have hy := yieldedV_eq
        have hL := And.intro @hget2 (@hv1)
        repeat' (first | (refine WPV.seqK ?_; intro N hN) | refine gA ?_ | (refine gR (M := noM) ?_; intro N hN ops hy) | (refine gD (M := noM) ?_; intro N hN; have hy := yieldedV_eq) | (refine WPV.condK ?_; intro A hA B hB) | (refine here ?_; refine sS ?_) | refine Both.mk ?_ ?_ | ((with_reducible refine CallO.gd 79 ?_); refine CallO.frB [1, 5, 6] Tryz.call79 (dput_e hp j2) ?_) | ((with_reducible refine CallO.gd 45 ?_); refine CallO.toB Tryz.call45 (vput_s (m := (av.size : Int) + 1) (by omega) (by omega) _) ?_) | ((with_reducible refine CallP.gd 79 ?_); refine CallP.frB [1, 5, 6] 2 Tryz.call79 (dput_e hp j2) ?_) | ((with_reducible refine CallP.gd 45 ?_); refine CallP.toB Tryz.call45 (vput_s (m := (av.size : Int) + 1) (by omega) (by omega) _) ?_) | (refine hN _ ?_; try clear hN N; try clear hy ops) | (refine hA ?_; clear hA A hB B; try simp only [hz]) | (refine hB ?_; clear hA A hB B; try simp only [hz]) | (refine gG ?_ ?_ <;> (intro hz; have h := nm hz; try (exfalso; omega)) <;> (have hz := nz hz; try subst hz)) | (rw [if_pos (show _ ∧ _ from ⟨by omega, by omega⟩)]; refine sS ?_) | refine gT ?_ | (clear hN N))
        have hL := And.intro @wrval_f ((@List.append_assoc UInt8))
        all_goals (exact rndZ (Desc.re [some 0, some 1, none, none, some 4, some 9, some 10, some 13] rfl) (H'))
    · obtain rfl : k = w.length := by omega
      clear H
      rw [List.drop_length] at j4 j5
      have e4 : hd ++ (wputF dpF d w).1 = b := by rw [j4]; simp [wputF]
      have e5 : (wputF dpF d w).2 = d2 := j5
      rw [e4, e5] at hQ
      refine loopV ?_
      have hz : True := trivial
      have hy := yieldedV_eq
      have hL := True.intro
      repeat' (first | (refine WPV.seqK ?_; intro N hN) | refine gA ?_ | (refine gR (M := noM) ?_; intro N hN ops hy) | (refine gD (M := noM) ?_; intro N hN; have hy := yieldedV_eq) | (refine WPV.condK ?_; intro A hA B hB) | (refine here ?_; refine sS ?_) | refine Both.mk ?_ ?_ | (refine hN _ ?_; try clear hN N; try clear hy ops) | (refine hA ?_; clear hA A hB B; try simp only [hz]) | (refine hB ?_; clear hA A hB B; try simp only [hz]) | (refine gG ?_ ?_ <;> (intro hz; have h := nm hz; try (exfalso; omega)) <;> (have hz := nz hz; try subst hz)) | (rw [if_pos (show _ ∧ _ from ⟨by omega, by omega⟩)]; refine sS ?_) | refine gT ?_ | (clear hN N))
      all_goals (try unfold byV at hQ)
      all_goals (first | exact retZ hQ Tryz.results65 (Desc.re [some 0, some 1, none, none, some 5, some 6] rfl) | exact retZN hQ Tryz.results65 (Desc.re [some 0, some 1, none, none, some 5, some 6] rfl))
end
section
open Go Go.RowKit
set_option linter.unusedVariables false
set_option linter.unusedSimpArgs false
variable {K : Nat → Obj → Prop}
theorem ctake_le (p : Clk) (l : List UInt8) : (ctakeF p l).2.1 ≤ l.length := by
  by_cases h : (ctakeF p l).2.2 = 0
  · exact (ctake_ok h).2.2.2
  · unfold ctakeF at h ⊢
    split
    · exact Nat.zero_le _
    rename_i h0
    rw [if_neg h0] at h
    dsimp only at h ⊢
    split
    · exact Nat.zero_le _
    rename_i h1
    rw [if_neg h1] at h
    split
    · exact Nat.zero_le _
    rename_i h2
    rw [if_neg h2] at h
    split
    · exact Nat.zero_le _
    rename_i h3
    rw [if_neg h3] at h
    exact absurd rfl h
structure TJ (b : List UInt8) (n u0 : Nat) (e0 : Int) (d0 : Di) (k used : Nat) (e : Int) (d : Di) (ws : List Wr) : Prop where
  hk : k ≤ n
  hu : used ≤ b.length
  ok : d.Ok
  len : ws.length = k
  n16 : 0 < k → n ≤ 16
  e00 : k = 0 → e = e0
  eq : wstakeF dtF b n u0 e0 d0 = ((ws ++ (wstakeF dtF b (n - k) used e d).1.1, (wstakeF dtF b (n - k) used e d).1.2.1, (wstakeF dtF b (n - k) used e d).1.2.2), (wstakeF dtF b (n - k) used e d).2)
theorem TJ.nxt {b : List UInt8} {n u0 : Nat} {e0 : Int} {d0 d d' : Di} {k used u : Nat} {e : Int} {ws : List Wr} {a : Wr} (j : TJ b n u0 e0 d0 k used 0 d ws) (hk : k < n) (hw : wtakeF dtF b used d = ((a, u, e), d')) (hu : u ≤ b.length) (ok : d'.Ok) (hn : e0 = 0 → n ≤ 16) : TJ b n u0 e0 d0 (k + 1) u e d' (ws ++ [a]) := by
  have e1 : wstakeF dtF b (n - k) used 0 d = ((a :: (wstakeF dtF b (n - (k + 1)) u e d').1.1, (wstakeF dtF b (n - (k + 1)) u e d').1.2.1, (wstakeF dtF b (n - (k + 1)) u e d').1.2.2), (wstakeF dtF b (n - (k + 1)) u e d').2) := by
    rw [show n - k = (n - (k + 1)) + 1 by omega]
    show (if (0 : Int) ≠ 0 then _ else _) = _
    rw [if_neg (by simp)]
    simp only [hw]
  refine ⟨hk, hu, ok, by simp [j.len], fun _ => ?_, fun h => by omega, ?_⟩
  · by_cases h0 : 0 < k
    · exact j.n16 h0
    · exact hn (j.e00 (by omega)).symm
  · rw [j.eq, e1]; simp
theorem TJ.fin {b : List UInt8} {n u0 : Nat} {e0 : Int} {d0 d : Di} {k used : Nat} {e : Int} {ws : List Wr} (j : TJ b n u0 e0 d0 k used e d ws) (h : ¬ (k < n ∧ e = 0)) : wstakeF dtF b n u0 e0 d0 = ((ws, used, e), d) := by
  have e1 : wstakeF dtF b (n - k) used e d = (([], used, e), d) := by
    by_cases hk : n - k = 0
    · rw [hk]; rfl
    · have he : e ≠ 0 := fun he => h ⟨by omega, he⟩
      rw [show n - k = (n - k - 1) + 1 by omega]
      show (if e ≠ 0 then _ else _) = _
      rw [if_pos he]
  rw [j.eq, e1]; simp
theorem wrl_app (l m : List Wr) : wrl (l ++ m) = wrl l ++ wrl m := by simp [wrl]
theorem wrl_one (a : Wr) : wrl [a] = [a.d] := rfl
abbrev ttV (r : Tx × Nat × Int) : V := .tup [txV r.1, .sc (.int .i64 (r.2.1 : Int)), .sc (.int .i64 r.2.2)]
set_option maxRecDepth 100000 in
set_option maxHeartbeats 2000000 in
theorem ctake_x (x : Cod Di) (b : List UInt8) (ok : x.d.Ok) (hl : b.length ≤ 1000000) : Sp Tryz.prog K 66 [.ptr 0 0, .sl 1 (bs b)] x.inn fun u hh => u = ttV (ttakeF dtF x b).1 ∧ hh = (ttakeF dtF x b).2.tout := by
  obtain ⟨o, u1, e1, h1⟩ : ∃ o u1 e1, numG b 0 0 4611686018427387903 1 = (o, u1, e1) := ⟨_, _, _, rfl⟩
  obtain ⟨k11, k12, k13, k14, k15⟩ := numG_ok (Nat.zero_le _) (by decide) h1
  obtain ⟨s, u2, e2, h2⟩ : ∃ s u2 e2, numG b u1 e1 4611686018427387903 1 = (s, u2, e2) := ⟨_, _, _, rfl⟩
  obtain ⟨k21, k22, k23, k24, k25⟩ := numG_ok k12 (by decide) h2
  have c1 := num_s (K := K) b 0 0 4611686018427387903 1 hl (Nat.zero_le _) h1
  have c2 := num_s (K := K) b u1 e1 4611686018427387903 1 hl k12 h2
  simp only [Int.natCast_add, Int.cast_ofNat_Int] at c1 c2
  obtain ⟨⟨x1, x2, x3⟩, d⟩ := x
  dsimp only at ok
  by_cases he2 : e2 ≠ 0
  · have c3 := num_s (K := K) b u2 e2 16 4 hl k22 (n := 0) (u := u2) (e := e2) (by unfold numG; rw [if_pos he2])
    simp only [Int.natCast_add, Int.cast_ofNat_Int] at c3
    have e : ttakeF dtF ⟨⟨x1, x2, x3⟩, d⟩ b = ((Tx.zero, 0, e2), ⟨⟨x1, x2, x3⟩, d⟩) := by
      unfold ttakeF
      simp only [h1, h2, if_neg he2]
      rw [show numG b (u2 + 0) e2 16 4 = (0, u2, e2) by unfold numG; rw [if_pos he2]; rfl]
      simp only [wstakeF, he2, if_false, ne_eq, not_false_eq_true, if_true]
    rw [e]
    refine Sp.of_bodyE Tryz.func66 rfl ?_
    intro Q hQ
    simp only [List.replicate, List.length_cons, List.length_nil, Tryz.ntmps66, Nat.reduceAdd, Nat.reduceSub, List.cons_append, List.nil_append, go_sem]
    have hz : True := trivial
    have hy := yieldedV_eq
    have hL := True.intro
    repeat' (first | (refine WPV.seqK ?_; intro N hN) | refine gA ?_ | (refine gR (M := noM) ?_; intro N hN ops hy) | (refine gD (M := noM) ?_; intro N hN; have hy := yieldedV_eq) | (refine WPV.condK ?_; intro A hA B hB) | (refine here ?_; refine sS ?_) | refine Both.mk ?_ ?_ | ((with_reducible refine CallO.gd 80 ?_); refine CallO.frB [1, 2, 3] Tryz.call80 (dcopy_s d ok.len) ?_) | ((with_reducible refine CallO.gd 81 ?_); first | refine CallO.frB [5] Tryz.call81 (c1) ?_ | refine CallO.frB [5] Tryz.call81 (c2) ?_ | refine CallO.frB [5] Tryz.call81 (c3) ?_) | (refine hN _ ?_; try clear hN N; try clear hy ops) | (refine hA ?_; clear hA A hB B; try simp only [hz]) | (refine hB ?_; clear hA A hB B; try simp only [hz]) | (refine gG ?_ ?_ <;> (intro hz; have h := nm hz; try (exfalso; omega)) <;> (have hz := nz hz; try subst hz)) | (rw [if_pos (show _ ∧ _ from ⟨by omega, by omega⟩)]; refine sS ?_) | refine gT ?_ | (clear hN N))
    refine loopV ?_
    have hz : True := trivial
    have hy := yieldedV_eq
    have hL := True.intro
    repeat' (first | (refine WPV.seqK ?_; intro N hN) | refine gA ?_ | (refine gR (M := noM) ?_; intro N hN ops hy) | (refine gD (M := noM) ?_; intro N hN; have hy := yieldedV_eq) | (refine WPV.condK ?_; intro A hA B hB) | (refine here ?_; refine sS ?_) | refine Both.mk ?_ ?_ | ((with_reducible refine CallO.gd 80 ?_); refine CallO.frB [1, 2, 3] Tryz.call80 (dcopy_s d ok.len) ?_) | ((with_reducible refine CallO.gd 81 ?_); first | refine CallO.frB [5] Tryz.call81 (c1) ?_ | refine CallO.frB [5] Tryz.call81 (c2) ?_ | refine CallO.frB [5] Tryz.call81 (c3) ?_) | (refine hN _ ?_; try clear hN N; try clear hy ops) | (refine hA ?_; clear hA A hB B; try simp only [hz]) | (refine hB ?_; clear hA A hB B; try simp only [hz]) | (refine gG ?_ ?_ <;> (intro hz; have h := nm hz; try (exfalso; omega)) <;> (have hz := nz hz; try subst hz)) | (rw [if_pos (show _ ∧ _ from ⟨by omega, by omega⟩)]; refine sS ?_) | refine gT ?_ | (clear hN N))
    all_goals (try unfold Tx.zero at hQ)
    all_goals (first | exact retZ hQ Tryz.results66 (Desc.re [some 0, none, none, none, some 1, some 2, some 3] rfl) | exact retZN hQ Tryz.results66 (Desc.re [some 0, none, none, none, some 1, some 2, some 3] rfl))
  · have he2 := Decidable.not_not.1 he2
    subst he2
    obtain ⟨he1, hs⟩ := k23 rfl
    subst he1
    obtain ⟨_, ho⟩ := k13 rfl
    obtain ⟨⟨c1', c2', c3'⟩, m, e3, h3⟩ : ∃ c m e3, ctakeF ⟨x1, x2, x3⟩ (b.drop u2) = (c, m, e3) := ⟨_, _, _, rfl⟩
    have ct := fun h => ctake_s (K := K) ⟨x1, x2, x3⟩ (b.drop u2) (by rw [List.length_drop]; omega) h
    rw [h3] at ct
    have hm := ctake_le ⟨x1, x2, x3⟩ (b.drop u2)
    rw [h3, List.length_drop] at hm
    dsimp only at hm
    obtain ⟨n4, u4, e4, h4⟩ : ∃ n4 u4 e4, numG b (u2 + m) e3 16 4 = (n4, u4, e4) := ⟨_, _, _, rfl⟩
    obtain ⟨k41, k42, k43, k44, k45⟩ := numG_ok (by omega) (by decide) h4
    have c3 := num_s (K := K) b (u2 + m) e3 16 4 hl (by omega) h4
    simp only [Int.natCast_add, Int.cast_ofNat_Int] at c3
    have e : ttakeF dtF ⟨⟨x1, x2, x3⟩, d⟩ b = if (if (wstakeF dtF b n4 u4 e4 d).1.2.2 = 0 then checkF ⟨o, s, ⟨c1', c2', c3'⟩, (wstakeF dtF b n4 u4 e4 d).1.1⟩ else (wstakeF dtF b n4 u4 e4 d).1.2.2) ≠ 0 then
        ((Tx.zero, 0, if (wstakeF dtF b n4 u4 e4 d).1.2.2 = 0 then checkF ⟨o, s, ⟨c1', c2', c3'⟩, (wstakeF dtF b n4 u4 e4 d).1.1⟩ else (wstakeF dtF b n4 u4 e4 d).1.2.2), ⟨⟨x1, x2, x3⟩, d⟩) else ((⟨o, s, ⟨c1', c2', c3'⟩, (wstakeF dtF b n4 u4 e4 d).1.1⟩, (wstakeF dtF b n4 u4 e4 d).1.2.1, 0), ⟨⟨c1', c2', c3'⟩, (wstakeF dtF b n4 u4 e4 d).2⟩) := by
      unfold ttakeF
      simp only [h1, h2, h3, h4, if_true]
    rw [e]
    refine Sp.of_bodyE Tryz.func66 rfl ?_
    intro Q hQ
    simp only [List.replicate, List.length_cons, List.length_nil, Tryz.ntmps66, Nat.reduceAdd, Nat.reduceSub, List.cons_append, List.nil_append, go_sem]
    have hz : True := trivial
    have hy := yieldedV_eq
    have hL := True.intro
    repeat' (first | (refine WPV.seqK ?_; intro N hN) | refine gA ?_ | (refine gR (M := noM) ?_; intro N hN ops hy) | (refine gD (M := noM) ?_; intro N hN; have hy := yieldedV_eq) | (refine WPV.condK ?_; intro A hA B hB) | (refine here ?_; refine sS ?_) | refine Both.mk ?_ ?_ | ((with_reducible refine CallO.gd 80 ?_); refine CallO.frB [1, 2, 3] Tryz.call80 (dcopy_s d ok.len) ?_) | ((with_reducible refine CallO.gd 81 ?_); first | refine CallO.frB [5] Tryz.call81 (c1) ?_ | refine CallO.frB [5] Tryz.call81 (c2) ?_ | refine CallO.frB [5] Tryz.call81 (c3) ?_) | ((with_reducible refine CallO.gd 82 ?_); refine CallO.toB Tryz.call82 (ct _) ?_) | ((with_reducible refine CallP.gd 82 ?_); refine CallP.toB Tryz.call82 (ct _) ?_) | (refine hN _ ?_; try clear hN N; try clear hy ops) | (refine hA ?_; clear hA A hB B; try simp only [hz]) | (refine hB ?_; clear hA A hB B; try simp only [hz]) | (refine gG ?_ ?_ <;> (intro hz; have h := nm hz; try (exfalso; omega)) <;> (have hz := nz hz; try subst hz)) | (rw [if_pos (show _ ∧ _ from ⟨by omega, by omega⟩)]; refine sS ?_) | refine gT ?_ | (clear hN N))
    refine WPV.loopW (α := Nat × Nat × Int × Di × List Wr) (fun q => n4 - q.1) (fun q => ⟨[.ptr 0 0, .any, .any, .any, .ptr 4 0, .any, .any, .ptr 5 0, .ptr 6 0, .ptr 9 0, .any, .any, .any, .any, .any, .any, .any, .any, .any, .any, .any, .any, .any, .any, .any, .any, .any, .any, .any, .any, .any, .any, .any, .any, .any, .any, .any, .any, .any, .any, .any, .any, .any, .any, .any, .any, .any, .any, .any, .any, .any, .any, .any, .any, .any, .any, .any, .any, .any, .any, .any, .any, .sc (.int .u64 (n4 : Int)), .sc (.int .u64 ((q.1 : Nat) : Int)), .any, .any, .any, .any, .any, .any, .any, .any, .any, .any, .any, .any, .any, .any, .any, .any, .any, .any, .any, .any, .any, .any, .any, .any, .any, .any, .any, .any, .any, .any, .any, .any, .any, .any, .any, .any, .any, .any, .any, .any, .any, .any, .any, .any, .any, .any, .any, .any, .any], [.cells [.ptr 1 0, .sc (.int .i64 x1), .sc (.int .i64 x2), .sc (.int .i64 x3)], .cells [.hs true 1 2 0 d.ks.length, .mp 3, .sc (.int .i64 (d.e : Int))], .cells (kc d.ks), .map (pm d.c d.l),
      .cells [.sc (.int .i64 0), .sc (.int .i64 0), .sc (.int .i64 0), .sc (.int .i64 0), .sc (.int .i64 0), .sc (.slice none 0 0)], .cells [.sl 1 (bs b), .sc (.int .i64 (q.2.1 : Int)), .sc (.int .i64 q.2.2.1)], .cells [.hs true 1 7 0 q.2.2.2.1.ks.length, .mp 8, .sc (.int .i64 (q.2.2.2.1.e : Int))], .cells (kc q.2.2.2.1.ks), .map (pm q.2.2.2.1.c q.2.2.2.1.l),
      .cells [.sc (.int .i64 (o : Int)), .sc (.int .i64 (s : Int)), .sc (.int .i64 c1'), .sc (.int .i64 c2'), .sc (.int .i64 c3'), .own 3 (wrl q.2.2.2.2) 10], .tail]⟩) (fun q => TJ b n4 u4 e4 d q.1 q.2.1 q.2.2.1 q.2.2.2.1 q.2.2.2.2) (0, u4, e4, d, []) ((Desc.own0H 9 5 3 rfl rfl).trans Desc.weakA) ⟨Nat.zero_le _, k42, ok, rfl, fun h => absurd h (Nat.lt_irrefl _), fun _ => rfl, by simp⟩ (fun q hJ H => ?_)
    obtain ⟨k, used, e, d2, ws⟩ := q
    dsimp only at hJ H ⊢
    obtain ⟨j1, j2, j3, j4, j5, j6, j7⟩ := id hJ
    by_cases h : k < n4 ∧ e = 0
    · obtain ⟨hk, rfl⟩ := h
      obtain ⟨a, u, e', d3, hw⟩ : ∃ a u e' d3, wtakeF dtF b used d2 = ((a, u, e'), d3) := ⟨_, _, _, _, rfl⟩
      obtain ⟨cw, hu', ok'⟩ := write_s (K := K) b used d2 d3 a u e' hl j2 j3 hw
      have hk16 : k ≤ 16 := by
        by_cases h0 : 0 < k
        · have := j5 h0; omega
        · omega
      have H' := H (k + 1, u, e', d3, ws ++ [a]) (hJ.nxt hk hw hu' ok' (fun h => (k43 h).2)) (by dsimp only; omega)
      clear H
      dsimp only at H'
      refine loopV ?_
      have hz : True := trivial
      have hy := yieldedV_eq
      have hL := True.intro
      repeat' (first | (refine WPV.seqK ?_; intro N hN) | refine gA ?_ | (refine gR (M := noM) ?_; intro N hN ops hy) | (refine gD (M := noM) ?_; intro N hN; have hy := yieldedV_eq) | (refine WPV.condK ?_; intro A hA B hB) | (refine here ?_; refine sS ?_) | refine Both.mk ?_ ?_ | ((with_reducible refine CallO.gd 83 ?_); refine CallO.frB [5, 6, 7, 8] Tryz.call83 (cw) ?_) | ((with_reducible refine CallP.gd 83 ?_); refine CallP.frB [5, 6, 7, 8] 2 Tryz.call83 (cw) ?_) | (refine hN _ ?_; try clear hN N; try clear hy ops) | (refine hA ?_; clear hA A hB B; try simp only [hz]) | (refine hB ?_; clear hA A hB B; try simp only [hz]) | (refine gG ?_ ?_ <;> (intro hz; have h := nm hz; try (exfalso; omega)) <;> (have hz := nz hz; try subst hz)) | (rw [if_pos (show _ ∧ _ from ⟨by omega, by omega⟩)]; refine sS ?_) | refine gT ?_ | (clear hN N))
      have hL := And.intro @wrl_app (@wrl_one)
      all_goals (exact rndZ (Desc.re [some 0, some 1, some 2, some 3, some 4, some 5, some 6, some 11, some 12, some 9, some 13] rfl) (H'))
    · rw [hJ.fin h] at hQ
      dsimp only at hQ
      have tc := tcheck_s (K := K) ⟨o, s, ⟨c1', c2', c3'⟩, ws⟩ (by dsimp only; by_cases h0 : 0 < k <;> omega)
      dsimp only [txV] at tc
      clear H
      refine WPV.desc (Desc.weakA (tm' := [.ptr 0 0, .any, .any, .any, .ptr 4 0, .any, .any, .ptr 5 0, .ptr 6 0, .ptr 9 0, .any, .any, .any, .any, .any, .any, .any, .any, .any, .any, .any, .any, .any, .any, .any, .any, .any, .any, .any, .any, .any, .any, .any, .any, .any, .any, .any, .any, .any, .any, .any, .any, .any, .any, .any, .any, .any, .any, .any, .any, .any, .any, .any, .any, .any, .any, .any, .any, .any, .any, .any, .any, .sc (.int .u64 (n4 : Int)), .sc (.int .u64 (k : Int)), .any, .any, .any, .any, .any, .any, .any, .any, .any, .any, .any, .any, .any, .any, .any, .any, .any, .any, .any, .any, .any, .any, .any, .any, .any, .any, .any, .any, .any, .any, .any, .any, .any, .any, .any, .any, .any, .any, .any, .any, .any, .any, .any, .any, .any, .any, .any, .any, .any]) (h' := [.cells [.ptr 1 0, .sc (.int .i64 x1), .sc (.int .i64 x2), .sc (.int .i64 x3)], .cells [.hs true 1 2 0 d.ks.length, .mp 3, .sc (.int .i64 (d.e : Int))], .cells (kc d.ks), .map (pm d.c d.l), .cells [.sc (.int .i64 0), .sc (.int .i64 0), .sc (.int .i64 0), .sc (.int .i64 0), .sc (.int .i64 0), .sc (.slice none 0 0)], .cells [.sl 1 (bs b), .sc (.int .i64 (used : Int)), .sc (.int .i64 e)], .cells [.hs true 1 7 0 d2.ks.length, .mp 8, .sc (.int .i64 (d2.e : Int))], .cells (kc d2.ks), .map (pm d2.c d2.l), .cells [.sc (.int .i64 (o : Int)), .sc (.int .i64 (s : Int)), .sc (.int .i64 c1'), .sc (.int .i64 c2'), .sc (.int .i64 c3'), .sl 3 (wrl ws)], .tail])) ?_
      by_cases he : e = 0
      · subst he
        have hkn : k = n4 := by omega
        subst hkn
        rw [if_pos rfl] at hQ
        generalize checkF ⟨o, s, ⟨c1', c2', c3'⟩, ws⟩ = q at *
        by_cases hq : q ≠ 0
        · rw [if_pos hq] at hQ
          refine loopV ?_
          have hz : True := trivial
          have hy := yieldedV_eq
          have hL := True.intro
          repeat' (first | (refine WPV.seqK ?_; intro N hN) | refine gA ?_ | (refine gR (M := noM) ?_; intro N hN ops hy) | (refine gD (M := noM) ?_; intro N hN; have hy := yieldedV_eq) | (refine WPV.condK ?_; intro A hA B hB) | (refine here ?_; refine sS ?_) | refine Both.mk ?_ ?_ | ((with_reducible refine CallO.gd 60 ?_); refine CallO.frB [] Tryz.call60 (tc) ?_) | (refine hN _ ?_; try clear hN N; try clear hy ops) | (refine hA ?_; clear hA A hB B; try simp only [hz]) | (refine hB ?_; clear hA A hB B; try simp only [hz]) | (refine gG ?_ ?_ <;> (intro hz; have h := nm hz; try (exfalso; omega)) <;> (have hz := nz hz; try subst hz)) | (rw [if_pos (show _ ∧ _ from ⟨by omega, by omega⟩)]; refine sS ?_) | refine gT ?_ | (clear hN N))
          all_goals (try unfold Tx.zero at hQ)
          all_goals (first | exact retZ hQ Tryz.results66 (Desc.re [some 0, none, none, none, some 1, some 2, some 3] rfl) | exact retZN hQ Tryz.results66 (Desc.re [some 0, none, none, none, some 1, some 2, some 3] rfl))
        · rw [if_neg hq] at hQ
          have hq := Decidable.not_not.1 hq
          subst hq
          refine loopV ?_
          have hz : True := trivial
          have hy := yieldedV_eq
          have hL := True.intro
          repeat' (first | (refine WPV.seqK ?_; intro N hN) | refine gA ?_ | (refine gR (M := noM) ?_; intro N hN ops hy) | (refine gD (M := noM) ?_; intro N hN; have hy := yieldedV_eq) | (refine WPV.condK ?_; intro A hA B hB) | (refine here ?_; refine sS ?_) | refine Both.mk ?_ ?_ | ((with_reducible refine CallO.gd 60 ?_); refine CallO.frB [] Tryz.call60 (tc) ?_) | (refine hN _ ?_; try clear hN N; try clear hy ops) | (refine hA ?_; clear hA A hB B; try simp only [hz]) | (refine hB ?_; clear hA A hB B; try simp only [hz]) | (refine gG ?_ ?_ <;> (intro hz; have h := nm hz; try (exfalso; omega)) <;> (have hz := nz hz; try subst hz)) | (rw [if_pos (show _ ∧ _ from ⟨by omega, by omega⟩)]; refine sS ?_) | refine gT ?_ | (clear hN N))
          all_goals (first | exact retZ hQ Tryz.results66 (Desc.re [some 0, none, none, none, some 6, some 7, some 8] rfl) | exact retZN hQ Tryz.results66 (Desc.re [some 0, none, none, none, some 6, some 7, some 8] rfl))
      · simp only [if_neg he] at hQ
        rw [if_pos he] at hQ
        refine loopV ?_
        have hz : True := trivial
        have hy := yieldedV_eq
        have hL := True.intro
        repeat' (first | (refine WPV.seqK ?_; intro N hN) | refine gA ?_ | (refine gR (M := noM) ?_; intro N hN ops hy) | (refine gD (M := noM) ?_; intro N hN; have hy := yieldedV_eq) | (refine WPV.condK ?_; intro A hA B hB) | (refine here ?_; refine sS ?_) | refine Both.mk ?_ ?_ | ((with_reducible refine CallO.gd 60 ?_); refine CallO.frB [] Tryz.call60 (tc) ?_) | (refine hN _ ?_; try clear hN N; try clear hy ops) | (refine hA ?_; clear hA A hB B; try simp only [hz]) | (refine hB ?_; clear hA A hB B; try simp only [hz]) | (refine gG ?_ ?_ <;> (intro hz; have h := nm hz; try (exfalso; omega)) <;> (have hz := nz hz; try subst hz)) | (rw [if_pos (show _ ∧ _ from ⟨by omega, by omega⟩)]; refine sS ?_) | refine gT ?_ | (clear hN N))
        all_goals (try unfold Tx.zero at hQ)
        all_goals (first | exact retZ hQ Tryz.results66 (Desc.re [some 0, none, none, none, some 1, some 2, some 3] rfl) | exact retZN hQ Tryz.results66 (Desc.re [some 0, none, none, none, some 1, some 2, some 3] rfl))
end
end Go.Proofs.YtgfnpcmehnjopaaGreatDoor
