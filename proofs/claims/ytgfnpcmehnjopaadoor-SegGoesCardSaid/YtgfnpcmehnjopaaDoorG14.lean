/- Parts of the proofs, joined: SegR, FrmO. -/
import Derived.Test.YtgfnpcmehnjopaaDoorG13
section
namespace Go.Proofs.YtgfnpcmehnjopaaDoor
open Go Go.RowKit
set_option linter.unusedVariables false
set_option linter.unusedSimpArgs false
variable {K : Nat → Obj → Prop}
set_option maxRecDepth 100000 in
set_option maxHeartbeats 1000000 in
theorem numn_s {b r : List UInt8} {n : Nat} {e : Int} (h : nxtF b = (n, e, r)) (hl : b.length ≤ 1000000000) : Sp Tryd.prog K 102 [.ptr 0 0] [.cells [.sl 1 (bs b)]] fun u hh => u = .tup [.sc (.int .u64 (n : Int)), .sc (.int .i64 e)] ∧ hh = [.cells [.sl 1 (bs r)]] := by
  obtain ⟨p, m, er, ht⟩ : ∃ p m er, tk b = (p, m, er) := ⟨_, _, _, rfl⟩
  have hm := tk_le b
  unfold nxtF at h
  rw [ht] at h hm
  dsimp only at h hm
  simp only [Prod.mk.injEq] at h
  obtain ⟨rfl, rfl, rfl⟩ := h
  refine Sp.of_bodyE Tryd.func102 rfl ?_
  intro Q hQ
  simp only [List.replicate, List.length_cons, List.length_nil, Tryd.ntmps102, Nat.reduceAdd, Nat.reduceSub, List.cons_append, List.nil_append, go_sem]
  have hz : True := trivial
  have hy := yieldedV_eq
  have hL := True.intro
  repeat' (first | (refine WPV.seqK ?_; intro N hN) | (refine And.intro (hO _ (by kernel_rfl)) ?_; clear hO) | refine gA ?_ | (refine gR (M := noM) ?_; intro N hN ops hy) | (refine gDG (M := noM) ?_; intro N hN ops hy hO) | (refine WPV.condK ?_; intro A hA B hB) | (refine here ?_; refine sS ?_) | refine Both.mk ?_ ?_ | ((with_reducible refine CallO.gd 77 ?_); refine CallO.toB Tryd.call77 (vtake_s ht hl _) ?_) | ((with_reducible refine CallP.gd 77 ?_); refine CallP.toB Tryd.call77 (vtake_s ht hl _) ?_) | (refine hN _ ?_; try clear hN N; try clear hy ops) | (refine hA ?_; clear hA A hB B; try simp only [hz]) | (refine hB ?_; clear hA A hB B; try simp only [hz]) | (refine gG ?_ ?_ <;> (intro hz; have h := nm hz; try (exfalso; omega)) <;> (have hz := nz hz; try subst hz)) | (rw [if_pos (show _ ∧ _ from ⟨by omega, by omega⟩)]; refine sS ?_) | refine gT ?_ | (clear hN N))
  all_goals (first | exact retZ hQ Tryd.results102 (Desc.re [some 0] rfl) | exact retZN hQ Tryd.results102 (Desc.re [some 0] rfl))
set_option maxRecDepth 100000 in
set_option maxHeartbeats 4000000 in
theorem head_s (b : List UInt8) (hl : b.length ≤ 1000000000) : Sp Tryd.prog K 69 [.sl 1 (bs b)] [] fun u hh => u = .tup [shdV (headF b).1, .sc (.int .i64 (headF b).2)] ∧ hh = [] := by
  obtain ⟨n1, e1, r1, h1⟩ : ∃ n e r, nxtF b = (n, e, r) := ⟨_, _, _, rfl⟩
  obtain ⟨n2, e2, r2, h2⟩ : ∃ n e r, nxtF r1 = (n, e, r) := ⟨_, _, _, rfl⟩
  obtain ⟨n3, e3, r3, h3⟩ : ∃ n e r, nxtF r2 = (n, e, r) := ⟨_, _, _, rfl⟩
  obtain ⟨b1, b2, b3⟩ := nxtF_bd h1
  obtain ⟨b4, b5, b6⟩ := nxtF_bd h2
  obtain ⟨b7, b8, b9⟩ := nxtF_bd h3
  have c1 := numn_s (K := K) h1 hl
  have c2 := numn_s (K := K) h2 (by omega)
  have c3 := numn_s (K := K) h3 (by omega)
  have cc := fun hp => segchk_s (K := K) ⟨n1, n2, n3⟩ hp
  rw [headF_of h1 h2 h3]
  clear h1 h2 h3
  generalize segChk ⟨n1, n2, n3⟩ = ck at *
  refine Sp.of_bodyE Tryd.func69 rfl ?_
  intro Q hQ
  simp only [List.replicate, List.length_cons, List.length_nil, Tryd.ntmps69, Nat.reduceAdd, Nat.reduceSub, List.cons_append, List.nil_append, go_sem]
  have hz : True := trivial
  have hy := yieldedV_eq
  have hL := True.intro
  repeat' (first | (refine WPV.seqK ?_; intro N hN) | (refine And.intro (hO _ (by kernel_rfl)) ?_; clear hO) | refine gA ?_ | (refine gR (M := noM) ?_; intro N hN ops hy) | (refine gDG (M := noM) ?_; intro N hN ops hy hO) | (refine WPV.condK ?_; intro A hA B hB) | (refine here ?_; refine sS ?_) | refine Both.mk ?_ ?_ | ((with_reducible refine CallO.gd 102 ?_); first | refine CallO.frB [1] Tryd.call102 (c1) ?_ | refine CallO.frB [1] Tryd.call102 (c2) ?_ | refine CallO.frB [1] Tryd.call102 (c3) ?_) | ((with_reducible refine CallO.gd 63 ?_); refine CallO.toB Tryd.call63 (cc _) ?_) | ((with_reducible refine CallP.gd 63 ?_); refine CallP.toB Tryd.call63 (cc _) ?_) | (refine hN _ ?_; try clear hN N; try clear hy ops) | (refine hA ?_; clear hA A hB B; try simp only [hz]) | (refine hB ?_; clear hA A hB B; try simp only [hz]) | (refine gG ?_ ?_ <;> (intro hz; have h := nm hz; try (exfalso; omega)) <;> (have hz := nz hz; try subst hz)) | (rw [if_pos (show _ ∧ _ from ⟨by omega, by omega⟩)]; refine sS ?_) | refine gT ?_ | (clear hN N))
  refine loopV ?_
  have hz : True := trivial
  have hy := yieldedV_eq
  have hL := True.intro
  repeat' (first | (refine WPV.seqK ?_; intro N hN) | (refine And.intro (hO _ (by kernel_rfl)) ?_; clear hO) | refine gA ?_ | (refine gR (M := noM) ?_; intro N hN ops hy) | (refine gDG (M := noM) ?_; intro N hN ops hy hO) | (refine WPV.condK ?_; intro A hA B hB) | (refine here ?_; refine sS ?_) | refine Both.mk ?_ ?_ | ((with_reducible refine CallO.gd 102 ?_); first | refine CallO.frB [1] Tryd.call102 (c1) ?_ | refine CallO.frB [1] Tryd.call102 (c2) ?_ | refine CallO.frB [1] Tryd.call102 (c3) ?_) | ((with_reducible refine CallO.gd 63 ?_); refine CallO.toB Tryd.call63 (cc _) ?_) | ((with_reducible refine CallP.gd 63 ?_); refine CallP.toB Tryd.call63 (cc _) ?_) | (refine hN _ ?_; try clear hN N; try clear hy ops) | (refine hA ?_; clear hA A hB B; try simp only [hz]) | (refine hB ?_; clear hA A hB B; try simp only [hz]) | (refine gG ?_ ?_ <;> (intro hz; have h := nm hz; try (exfalso; omega)) <;> (have hz := nz hz; try subst hz)) | (rw [if_pos (show _ ∧ _ from ⟨by omega, by omega⟩)]; refine sS ?_) | refine gT ?_ | (clear hN N))
  all_goals (try unfold Shd.z at hQ)
  all_goals (try (first | exact retZ hQ Tryd.results69 (Desc.re [] rfl) | exact retZN hQ Tryd.results69 (Desc.re [] rfl)))
  refine loopV ?_
  have hz : True := trivial
  have hy := yieldedV_eq
  have hL := True.intro
  repeat' (first | (refine WPV.seqK ?_; intro N hN) | (refine And.intro (hO _ (by kernel_rfl)) ?_; clear hO) | refine gA ?_ | (refine gR (M := noM) ?_; intro N hN ops hy) | (refine gDG (M := noM) ?_; intro N hN ops hy hO) | (refine WPV.condK ?_; intro A hA B hB) | (refine here ?_; refine sS ?_) | refine Both.mk ?_ ?_ | ((with_reducible refine CallO.gd 102 ?_); first | refine CallO.frB [1] Tryd.call102 (c1) ?_ | refine CallO.frB [1] Tryd.call102 (c2) ?_ | refine CallO.frB [1] Tryd.call102 (c3) ?_) | ((with_reducible refine CallO.gd 63 ?_); refine CallO.toB Tryd.call63 (cc _) ?_) | ((with_reducible refine CallP.gd 63 ?_); refine CallP.toB Tryd.call63 (cc _) ?_) | (refine hN _ ?_; try clear hN N; try clear hy ops) | (refine hA ?_; clear hA A hB B; try simp only [hz]) | (refine hB ?_; clear hA A hB B; try simp only [hz]) | (refine gG ?_ ?_ <;> (intro hz; have h := nm hz; try (exfalso; omega)) <;> (have hz := nz hz; try subst hz)) | (rw [if_pos (show _ ∧ _ from ⟨by omega, by omega⟩)]; refine sS ?_) | refine gT ?_ | (clear hN N))
  all_goals (try unfold Shd.z at hQ)
  all_goals (try (first | exact retZ hQ Tryd.results69 (Desc.re [] rfl) | exact retZN hQ Tryd.results69 (Desc.re [] rfl)))
  refine loopV ?_
  have hz : True := trivial
  have hy := yieldedV_eq
  have hL := True.intro
  repeat' (first | (refine WPV.seqK ?_; intro N hN) | (refine And.intro (hO _ (by kernel_rfl)) ?_; clear hO) | refine gA ?_ | (refine gR (M := noM) ?_; intro N hN ops hy) | (refine gDG (M := noM) ?_; intro N hN ops hy hO) | (refine WPV.condK ?_; intro A hA B hB) | (refine here ?_; refine sS ?_) | refine Both.mk ?_ ?_ | ((with_reducible refine CallO.gd 102 ?_); first | refine CallO.frB [1] Tryd.call102 (c1) ?_ | refine CallO.frB [1] Tryd.call102 (c2) ?_ | refine CallO.frB [1] Tryd.call102 (c3) ?_) | ((with_reducible refine CallO.gd 63 ?_); refine CallO.toB Tryd.call63 (cc _) ?_) | ((with_reducible refine CallP.gd 63 ?_); refine CallP.toB Tryd.call63 (cc _) ?_) | (refine hN _ ?_; try clear hN N; try clear hy ops) | (refine hA ?_; clear hA A hB B; try simp only [hz]) | (refine hB ?_; clear hA A hB B; try simp only [hz]) | (refine gG ?_ ?_ <;> (intro hz; have h := nm hz; try (exfalso; omega)) <;> (have hz := nz hz; try subst hz)) | (rw [if_pos (show _ ∧ _ from ⟨by omega, by omega⟩)]; refine sS ?_) | refine gT ?_ | (clear hN N))
  all_goals (try unfold Shd.z at hQ)
  all_goals (try (first | exact retZ hQ Tryd.results69 (Desc.re [] rfl) | exact retZN hQ Tryd.results69 (Desc.re [] rfl)))
  refine loopV ?_
  have hz : True := trivial
  have hy := yieldedV_eq
  have hL := True.intro
  repeat' (first | (refine WPV.seqK ?_; intro N hN) | (refine And.intro (hO _ (by kernel_rfl)) ?_; clear hO) | refine gA ?_ | (refine gR (M := noM) ?_; intro N hN ops hy) | (refine gDG (M := noM) ?_; intro N hN ops hy hO) | (refine WPV.condK ?_; intro A hA B hB) | (refine here ?_; refine sS ?_) | refine Both.mk ?_ ?_ | ((with_reducible refine CallO.gd 102 ?_); first | refine CallO.frB [1] Tryd.call102 (c1) ?_ | refine CallO.frB [1] Tryd.call102 (c2) ?_ | refine CallO.frB [1] Tryd.call102 (c3) ?_) | ((with_reducible refine CallO.gd 63 ?_); refine CallO.toB Tryd.call63 (cc _) ?_) | ((with_reducible refine CallP.gd 63 ?_); refine CallP.toB Tryd.call63 (cc _) ?_) | (refine hN _ ?_; try clear hN N; try clear hy ops) | (refine hA ?_; clear hA A hB B; try simp only [hz]) | (refine hB ?_; clear hA A hB B; try simp only [hz]) | (refine gG ?_ ?_ <;> (intro hz; have h := nm hz; try (exfalso; omega)) <;> (have hz := nz hz; try subst hz)) | (rw [if_pos (show _ ∧ _ from ⟨by omega, by omega⟩)]; refine sS ?_) | refine gT ?_ | (clear hN N))
  all_goals (try unfold Shd.z at hQ)
  all_goals (first | exact retZ hQ Tryd.results69 (Desc.re [] rfl) | exact retZN hQ Tryd.results69 (Desc.re [] rfl))
abbrev rdV (r : Shd × List Tx × Nat × Int) : V := .tup [shdV r.1, .sl 6 (txs r.2.1), .sc (.int .i64 (r.2.2.1 : Int)), .sc (.int .i64 r.2.2.2)]
structure SJ (b : List UInt8) (h : Shd) (n used k : Nat) (x : Cod Di) (acc : List Tx) : Prop where
  hu : used ≤ b.length
  hk : b.length < used + k
  ok : x.d.Ok
  hr : rightF x.c = true
  len : acc.length ≤ used
  eq : segGo b h (b.length + 1) n Cod.new [] = segGo b h k used x acc
set_option maxRecDepth 100000 in
set_option maxHeartbeats 4000000 in
theorem sread_s (hK : KT K) (b : List UInt8) (hl : b.length ≤ 1000000) : Sp Tryd.prog K 28 [.sl 1 (bs b)] [] fun u hh => u = rdV (segRead b) ∧ hh = [] := by
  obtain ⟨p, n, e, hn⟩ : ∃ p n e, nextF b = (p, n, e) := ⟨_, _, _, rfl⟩
  have cn := fun hp => next_s hK b (by omega) hp
  have hrec := nextF_rec b
  have hnl := (nextF_len b).1
  rw [hn] at cn hrec hnl
  dsimp only [nxV] at cn hrec hnl
  obtain ⟨h, eh, hh⟩ : ∃ h e, headF p = (h, e) := ⟨_, _, rfl⟩
  have ch := fun hp => Sp.lift (head_s (K := K) p (by omega)) (fun _ => rfl) (fun _ => rfl) hp
  rw [hh] at ch
  dsimp only at ch
  have e0 : segRead b = if e ≠ 0 then (.z, [], 0, e) else if eh ≠ 0 then (.z, [], 0, eh) else (h, (segGo b h (b.length + 1) n Cod.new []).1, (segGo b h (b.length + 1) n Cod.new []).2.1, (segGo b h (b.length + 1) n Cod.new []).2.2) := by
    unfold segRead; simp only [hn, hh]
  rw [e0]
  clear e0 hn
  by_cases he : e ≠ 0
  · rw [if_pos he]
    obtain ⟨ho, hp, hf⟩ := h
    refine Sp.of_bodyE Tryd.func28 rfl ?_
    intro Q hQ
    simp only [List.replicate, List.length_cons, List.length_nil, Tryd.ntmps28, Nat.reduceAdd, Nat.reduceSub, List.cons_append, List.nil_append, go_sem]
    have hz : True := trivial
    have hy := yieldedV_eq
    have hL := True.intro
    repeat' (first | (refine WPV.seqK ?_; intro N hN) | (refine And.intro (hO _ (by kernel_rfl)) ?_; clear hO) | refine gA ?_ | (refine gR (M := noM) ?_; intro N hN ops hy) | (refine gDG (M := noM) ?_; intro N hN ops hy hO) | (refine WPV.condK ?_; intro A hA B hB) | (refine here ?_; refine sS ?_) | refine Both.mk ?_ ?_ | ((with_reducible refine CallO.gd 68 ?_); refine CallO.toB Tryd.call68 (cn _) ?_) | ((with_reducible refine CallO.gd 69 ?_); refine CallO.toB Tryd.call69 (ch _) ?_) | ((with_reducible refine CallO.gd 65 ?_); refine CallO.frB [] Tryd.call65 (cnew_s) ?_) | ((with_reducible refine CallP.gd 68 ?_); refine CallP.toB Tryd.call68 (cn _) ?_) | ((with_reducible refine CallP.gd 69 ?_); refine CallP.toB Tryd.call69 (ch _) ?_) | (refine hN _ ?_; try clear hN N; try clear hy ops) | (refine hA ?_; clear hA A hB B; try simp only [hz]) | (refine hB ?_; clear hA A hB B; try simp only [hz]) | (refine gG ?_ ?_ <;> (intro hz; have h := nm hz; try (exfalso; omega)) <;> (have hz := nz hz; try subst hz)) | (rw [if_pos (show _ ∧ _ from ⟨by omega, by omega⟩)]; refine sS ?_) | refine gT ?_ | (clear hN N))
    all_goals (try unfold Shd.z at hQ)
    all_goals (first | exact retZ hQ Tryd.results28 (Desc.re [] rfl) | exact retZN hQ Tryd.results28 (Desc.re [] rfl))
  rw [if_neg he]
  have he := Decidable.not_not.1 he
  subst he
  by_cases he : eh ≠ 0
  · rw [if_pos he]
    obtain ⟨ho, hp, hf⟩ := h
    refine Sp.of_bodyE Tryd.func28 rfl ?_
    intro Q hQ
    simp only [List.replicate, List.length_cons, List.length_nil, Tryd.ntmps28, Nat.reduceAdd, Nat.reduceSub, List.cons_append, List.nil_append, go_sem]
    have hz : True := trivial
    have hy := yieldedV_eq
    have hL := True.intro
    repeat' (first | (refine WPV.seqK ?_; intro N hN) | (refine And.intro (hO _ (by kernel_rfl)) ?_; clear hO) | refine gA ?_ | (refine gR (M := noM) ?_; intro N hN ops hy) | (refine gDG (M := noM) ?_; intro N hN ops hy hO) | (refine WPV.condK ?_; intro A hA B hB) | (refine here ?_; refine sS ?_) | refine Both.mk ?_ ?_ | ((with_reducible refine CallO.gd 68 ?_); refine CallO.toB Tryd.call68 (cn _) ?_) | ((with_reducible refine CallO.gd 69 ?_); refine CallO.toB Tryd.call69 (ch _) ?_) | ((with_reducible refine CallO.gd 65 ?_); refine CallO.frB [] Tryd.call65 (cnew_s) ?_) | ((with_reducible refine CallP.gd 68 ?_); refine CallP.toB Tryd.call68 (cn _) ?_) | ((with_reducible refine CallP.gd 69 ?_); refine CallP.toB Tryd.call69 (ch _) ?_) | (refine hN _ ?_; try clear hN N; try clear hy ops) | (refine hA ?_; clear hA A hB B; try simp only [hz]) | (refine hB ?_; clear hA A hB B; try simp only [hz]) | (refine gG ?_ ?_ <;> (intro hz; have h := nm hz; try (exfalso; omega)) <;> (have hz := nz hz; try subst hz)) | (rw [if_pos (show _ ∧ _ from ⟨by omega, by omega⟩)]; refine sS ?_) | refine gT ?_ | (clear hN N))
    all_goals (try unfold Shd.z at hQ)
    all_goals (first | exact retZ hQ Tryd.results28 (Desc.re [] rfl) | exact retZN hQ Tryd.results28 (Desc.re [] rfl))
  rw [if_neg he]
  have he := Decidable.not_not.1 he
  subst he
  obtain ⟨-, -, hb⟩ := segChk_ok (headF_ok hh)
  clear hh
  obtain ⟨ho, hp, hf⟩ := h
  dsimp only at ch hb
  refine Sp.of_bodyE Tryd.func28 rfl ?_
  intro Q hQ
  simp only [List.replicate, List.length_cons, List.length_nil, Tryd.ntmps28, Nat.reduceAdd, Nat.reduceSub, List.cons_append, List.nil_append, go_sem]
  have hz : True := trivial
  have hy := yieldedV_eq
  have hL := True.intro
  repeat' (first | (refine WPV.seqK ?_; intro N hN) | (refine And.intro (hO _ (by kernel_rfl)) ?_; clear hO) | refine gA ?_ | (refine gR (M := noM) ?_; intro N hN ops hy) | (refine gDG (M := noM) ?_; intro N hN ops hy hO) | (refine WPV.condK ?_; intro A hA B hB) | (refine here ?_; refine sS ?_) | refine Both.mk ?_ ?_ | ((with_reducible refine CallO.gd 68 ?_); refine CallO.toB Tryd.call68 (cn _) ?_) | ((with_reducible refine CallO.gd 69 ?_); refine CallO.toB Tryd.call69 (ch _) ?_) | ((with_reducible refine CallO.gd 65 ?_); refine CallO.frB [] Tryd.call65 (cnew_s) ?_) | ((with_reducible refine CallP.gd 68 ?_); refine CallP.toB Tryd.call68 (cn _) ?_) | ((with_reducible refine CallP.gd 69 ?_); refine CallP.toB Tryd.call69 (ch _) ?_) | (refine hN _ ?_; try clear hN N; try clear hy ops) | (refine hA ?_; clear hA A hB B; try simp only [hz]) | (refine hB ?_; clear hA A hB B; try simp only [hz]) | (refine gG ?_ ?_ <;> (intro hz; have h := nm hz; try (exfalso; omega)) <;> (have hz := nz hz; try subst hz)) | (rw [if_pos (show _ ∧ _ from ⟨by omega, by omega⟩)]; refine sS ?_) | refine gT ?_ | (clear hN N))
  clear ch cn
  refine WPV.loopW (α := Nat × Nat × Cod Di × List Tx) (fun q => b.length - q.1) (fun q => ⟨[.sl 1 (bs b), .any, .ptr 0 0, .any, .any, .any, .any, .sc (.int .i64 (q.1 : Int)), .any, .ptr 1 0, .own 6 (txs q.2.2.2) 6, .ptr 2 0, .any, .any, .any, .any, .any, .any, .any, .any, .any, .any, .any, .any, .any, .any, .any, .any, .any, .any, .any, .any, .any, .any, .any, .any, .any, .any, .any, .any, .any, .any, .any, .any, .any, .any, .any, .any, .any, .any, .any, .any, .any, .any, .any, .any, .any, .any, .any, .any, .any, .any, .any, .any, .any, .any, .any, .any, .any, .any, .any, .any, .any, .any, .any, .any, .any, .any, .any, .any, .any, .any, .any, .any, .any, .any, .any, .any, .any, .any, .any, .any, .any, .any, .any, .any, .any, .any, .any, .any, .any, .any, .any, .any, .any, .any], [.cells [.sc (.int .i64 0), .sc (.int .i64 0), .sc (.int .i64 0)], .cells [.sc (.int .i64 ho), .sc (.int .i64 hp), .sc (.int .i64 hf)], .cells [.ptr 3 0, .sc (.int .i64 q.2.2.1.c.x), .sc (.int .i64 q.2.2.1.c.y), .sc (.int .i64 q.2.2.1.c.z)], .cells [.hs true 1 4 0 q.2.2.1.d.ks.length, .mp 5, .sc (.int .i64 (q.2.2.1.d.e : Int))], .cells (kc q.2.2.1.d.ks), .map (pm q.2.2.1.d.c q.2.2.1.d.l), .tail]⟩) (fun q => SJ b ⟨ho, hp, hf⟩ n q.1 q.2.1 q.2.2.1 q.2.2.2) (n, b.length + 1, Cod.new, []) ((Desc.own0 (es := []) 10 6 rfl (.inr ⟨rfl, rfl⟩)).trans Desc.weakA) ⟨hnl, by dsimp only; omega, .nw, r_new, Nat.zero_le _, rfl⟩ (fun q hJ H => ?_)
  obtain ⟨used, k, x, acc⟩ := q
  obtain ⟨j1, j2, ok, hr, j5, j6⟩ := hJ
  dsimp only at j1 j2 ok hr j5 j6 H ⊢
  by_cases hlt : used < b.length
  · obtain ⟨k, rfl⟩ : ∃ k', k = k' + 1 := ⟨k - 1, by omega⟩
    obtain ⟨q, m, e2, hn2⟩ : ∃ p n e, nextF (b.drop used) = (p, n, e) := ⟨_, _, _, rfl⟩
    have cn := fun hp => next_s hK (b.drop used) (by rw [List.length_drop]; omega) hp
    have hrec2 := nextF_rec (b.drop used)
    obtain ⟨hm1, hm2⟩ := nextF_len (b.drop used)
    rw [hn2] at cn hrec2 hm1 hm2
    dsimp only [nxV] at cn
    dsimp only at hrec2 hm1 hm2
    rw [List.length_drop] at hrec2 hm1
    by_cases he2 : e2 ≠ 0
    · rw [segGo_err hlt hn2 he2] at j6
      rw [j6] at hQ
      clear H j6
      refine loopV ?_
      have hz : True := trivial
      have hy := yieldedV_eq
      have hL := True.intro
      repeat' (first | (refine WPV.seqK ?_; intro N hN) | (refine And.intro (hO _ (by kernel_rfl)) ?_; clear hO) | refine gA ?_ | (refine gR (M := noM) ?_; intro N hN ops hy) | (refine gDG (M := noM) ?_; intro N hN ops hy hO) | (refine WPV.condK ?_; intro A hA B hB) | (refine here ?_; refine sS ?_) | refine Both.mk ?_ ?_ | ((with_reducible refine CallO.gd 68 ?_); refine CallO.toB Tryd.call68 (cn _) ?_) | ((with_reducible refine CallO.gd 70 ?_); refine CallO.frB [2, 3, 4, 5] Tryd.call70 (ct) ?_) | ((with_reducible refine CallP.gd 68 ?_); refine CallP.toB Tryd.call68 (cn _) ?_) | (refine hN _ ?_; try clear hN N; try clear hy ops) | (refine hA ?_; clear hA A hB B; try simp only [hz]) | (refine hB ?_; clear hA A hB B; try simp only [hz]) | (refine gG ?_ ?_ <;> (intro hz; have h := nm hz; try (exfalso; omega)) <;> (have hz := nz hz; try subst hz)) | (rw [if_pos (show _ ∧ _ from ⟨by omega, by omega⟩)]; refine sS ?_) | refine gT ?_ | (clear hN N))
      all_goals (first | exact retZ hQ Tryd.results28 (Desc.re [] rfl) | exact retZN hQ Tryd.results28 (Desc.re [] rfl))
    have he2 := Decidable.not_not.1 he2
    subst he2
    have hm2 := hm2 rfl
    rcases ttake_two ok hr q with ⟨e', he, p1⟩ | ⟨t, z, x', p1, p2, n1, n2, hc, ok', hr', hw⟩
    · have ct := ctake_e (K := K) p1 ok (by omega)
      rw [segGo_bad hlt hn2 p1, if_pos he] at j6
      rw [j6] at hQ
      clear H j6 hn2 p1
      dsimp only [ttV, Tx.zero, txV] at ct
      refine loopV ?_
      have hz : True := trivial
      have hy := yieldedV_eq
      have hL := True.intro
      repeat' (first | (refine WPV.seqK ?_; intro N hN) | (refine And.intro (hO _ (by kernel_rfl)) ?_; clear hO) | refine gA ?_ | (refine gR (M := noM) ?_; intro N hN ops hy) | (refine gDG (M := noM) ?_; intro N hN ops hy hO) | (refine WPV.condK ?_; intro A hA B hB) | (refine here ?_; refine sS ?_) | refine Both.mk ?_ ?_ | ((with_reducible refine CallO.gd 68 ?_); refine CallO.toB Tryd.call68 (cn _) ?_) | ((with_reducible refine CallO.gd 70 ?_); refine CallO.frB [2, 3, 4, 5] Tryd.call70 (ct) ?_) | ((with_reducible refine CallP.gd 68 ?_); refine CallP.toB Tryd.call68 (cn _) ?_) | (refine hN _ ?_; try clear hN N; try clear hy ops) | (refine hA ?_; clear hA A hB B; try simp only [hz]) | (refine hB ?_; clear hA A hB B; try simp only [hz]) | (refine gG ?_ ?_ <;> (intro hz; have h := nm hz; try (exfalso; omega)) <;> (have hz := nz hz; try subst hz)) | (rw [if_pos (show _ ∧ _ from ⟨by omega, by omega⟩)]; refine sS ?_) | refine gT ?_ | (clear hN N))
      all_goals (first | exact retZ hQ Tryd.results28 (Desc.re [] rfl) | exact retZN hQ Tryd.results28 (Desc.re [] rfl))
    have ct := ctake_e (K := K) p1 ok (by omega)
    rw [segGo_bad hlt hn2 p1, if_neg (by simp)] at j6
    obtain ⟨to, ts, ⟨c1, c2, c3⟩, tw⟩ := t
    dsimp only at j6
    by_cases hz1 : z ≠ q.length
    · rw [if_pos hz1] at j6
      rw [j6] at hQ
      clear H j6 hn2 p1 p2
      dsimp only [ttV, txV] at ct
      refine loopV ?_
      have hz : True := trivial
      have hy := yieldedV_eq
      have hL := True.intro
      repeat' (first | (refine WPV.seqK ?_; intro N hN) | (refine And.intro (hO _ (by kernel_rfl)) ?_; clear hO) | refine gA ?_ | (refine gR (M := noM) ?_; intro N hN ops hy) | (refine gDG (M := noM) ?_; intro N hN ops hy hO) | (refine WPV.condK ?_; intro A hA B hB) | (refine here ?_; refine sS ?_) | refine Both.mk ?_ ?_ | ((with_reducible refine CallO.gd 68 ?_); refine CallO.toB Tryd.call68 (cn _) ?_) | ((with_reducible refine CallO.gd 70 ?_); refine CallO.frB [2, 3, 4, 5] Tryd.call70 (ct) ?_) | ((with_reducible refine CallP.gd 68 ?_); refine CallP.toB Tryd.call68 (cn _) ?_) | (refine hN _ ?_; try clear hN N; try clear hy ops) | (refine hA ?_; clear hA A hB B; try simp only [hz]) | (refine hB ?_; clear hA A hB B; try simp only [hz]) | (refine gG ?_ ?_ <;> (intro hz; have h := nm hz; try (exfalso; omega)) <;> (have hz := nz hz; try subst hz)) | (rw [if_pos (show _ ∧ _ from ⟨by omega, by omega⟩)]; refine sS ?_) | refine gT ?_ | (clear hN N))
      all_goals (first | exact retZ hQ Tryd.results28 (Desc.re [] rfl) | exact retZN hQ Tryd.results28 (Desc.re [] rfl))
    rw [if_neg hz1] at j6
    by_cases hg : to ≠ ho ∨ ts ≠ hf + acc.length
    · rw [if_pos hg] at j6
      rw [j6] at hQ
      clear H j6 hn2 p1 p2
      dsimp only [ttV, txV] at ct
      refine loopV ?_
      have hz : True := trivial
      have hy := yieldedV_eq
      have hL := True.intro
      repeat' (first | (refine WPV.seqK ?_; intro N hN) | (refine And.intro (hO _ (by kernel_rfl)) ?_; clear hO) | refine gA ?_ | (refine gR (M := noM) ?_; intro N hN ops hy) | (refine gDG (M := noM) ?_; intro N hN ops hy hO) | (refine WPV.condK ?_; intro A hA B hB) | (refine here ?_; refine sS ?_) | refine Both.mk ?_ ?_ | ((with_reducible refine CallO.gd 68 ?_); refine CallO.toB Tryd.call68 (cn _) ?_) | ((with_reducible refine CallO.gd 70 ?_); refine CallO.frB [2, 3, 4, 5] Tryd.call70 (ct) ?_) | ((with_reducible refine CallP.gd 68 ?_); refine CallP.toB Tryd.call68 (cn _) ?_) | (refine hN _ ?_; try clear hN N; try clear hy ops) | (refine hA ?_; clear hA A hB B; try simp only [hz]) | (refine hB ?_; clear hA A hB B; try simp only [hz]) | (refine gG ?_ ?_ <;> (intro hz; have h := nm hz; try (exfalso; omega)) <;> (have hz := nz hz; try subst hz)) | (rw [if_pos (show _ ∧ _ from ⟨by omega, by omega⟩)]; refine sS ?_) | refine gT ?_ | (clear hN N))
      all_goals (first | exact retZ hQ Tryd.results28 (Desc.re [] rfl) | exact retZN hQ Tryd.results28 (Desc.re [] rfl))
    rw [if_neg hg] at j6
    have H' := H (used + m, k, x', acc ++ [⟨to, ts, ⟨c1, c2, c3⟩, tw⟩]) ⟨by dsimp only; omega, by dsimp only; omega, ok', hr', by rw [List.length_append]; dsimp only [List.length]; omega, j6⟩ (by dsimp only; omega)
    clear H j6 hn2 p1 p2
    dsimp only at H'
    dsimp only [ttV, txV] at ct
    refine loopV ?_
    have hz : True := trivial
    have hy := yieldedV_eq
    have hL := True.intro
    repeat' (first | (refine WPV.seqK ?_; intro N hN) | (refine And.intro (hO _ (by kernel_rfl)) ?_; clear hO) | refine gA ?_ | (refine gR (M := noM) ?_; intro N hN ops hy) | (refine gDG (M := noM) ?_; intro N hN ops hy hO) | (refine WPV.condK ?_; intro A hA B hB) | (refine here ?_; refine sS ?_) | refine Both.mk ?_ ?_ | ((with_reducible refine CallO.gd 68 ?_); refine CallO.toB Tryd.call68 (cn _) ?_) | ((with_reducible refine CallO.gd 70 ?_); refine CallO.frB [2, 3, 4, 5] Tryd.call70 (ct) ?_) | ((with_reducible refine CallP.gd 68 ?_); refine CallP.toB Tryd.call68 (cn _) ?_) | (refine hN _ ?_; try clear hN N; try clear hy ops) | (refine hA ?_; clear hA A hB B; try simp only [hz]) | (refine hB ?_; clear hA A hB B; try simp only [hz]) | (refine gG ?_ ?_ <;> (intro hz; have h := nm hz; try (exfalso; omega)) <;> (have hz := nz hz; try subst hz)) | (rw [if_pos (show _ ∧ _ from ⟨by omega, by omega⟩)]; refine sS ?_) | refine gT ?_ | (clear hN N))
    have hL := And.intro @txs_app (@txs_one)
    all_goals (exact rndZ (Desc.re [some 0, some 1, some 2, some 7, some 8, some 9, some 11] rfl) (H'))
  · rw [segGo_end (used := used) (by omega)] at j6
    rw [j6] at hQ
    clear H j6
    refine loopV ?_
    have hz : True := trivial
    have hy := yieldedV_eq
    have hL := True.intro
    repeat' (first | (refine WPV.seqK ?_; intro N hN) | (refine And.intro (hO _ (by kernel_rfl)) ?_; clear hO) | refine gA ?_ | (refine gR (M := noM) ?_; intro N hN ops hy) | (refine gDG (M := noM) ?_; intro N hN ops hy hO) | (refine WPV.condK ?_; intro A hA B hB) | (refine here ?_; refine sS ?_) | refine Both.mk ?_ ?_ | (refine hN _ ?_; try clear hN N; try clear hy ops) | (refine hA ?_; clear hA A hB B; try simp only [hz]) | (refine hB ?_; clear hA A hB B; try simp only [hz]) | (refine gG ?_ ?_ <;> (intro hz; have h := nm hz; try (exfalso; omega)) <;> (have hz := nz hz; try subst hz)) | (rw [if_pos (show _ ∧ _ from ⟨by omega, by omega⟩)]; refine sS ?_) | refine gT ?_ | (clear hN N))
    all_goals (first | exact retZ hQ Tryd.results28 (Desc.re [] rfl) | exact retZN hQ Tryd.results28 (Desc.re [] rfl))
def goesV : Option Wtr → V
  | some _ => .ptr 0 0
  | none => .sc (.pointer none)
def goesH : Option Wtr → List Ho
  | some w => w.inn
  | none => []
set_option maxRecDepth 100000 in
set_option maxHeartbeats 2000000 in
theorem sgoes_s (hK : KT K) (h : Shd) (hc : segChk h = 0) (l : List Tx) (hl : l.length ≤ 9223372036854775807) (hw : ∀ t ∈ l, t.w.length ≤ 9223372036854775807) : Sp Tryd.prog K 31 [shdV h, .sl 6 (txs l)] [] fun u hh => u = goesV (goesGo (Wtr.new h) l) ∧ hh = goesH (goesGo (Wtr.new h) l) := by
  have hb := headB_len hc
  have cn := snew_ok hK h hc (wrapF_small (p := headB h) (by omega))
  generalize sealF (vput (headB h).length ++ headB h) = hd at cn
  have e0 : Wtr.new h = ⟨h.o, h.f, Cod.new⟩ := rfl
  rw [e0] at cn ⊢
  obtain ⟨o, p, f⟩ := h
  dsimp only at cn hc ⊢
  clear hb e0 hc
  refine Sp.of_bodyE Tryd.func31 rfl ?_
  intro Q hQ
  simp only [List.replicate, List.length_cons, List.length_nil, Tryd.ntmps31, Nat.reduceAdd, Nat.reduceSub, List.cons_append, List.nil_append, go_sem]
  have hz : True := trivial
  have hy := yieldedV_eq
  have hL := True.intro
  repeat' (first | (refine WPV.seqK ?_; intro N hN) | (refine And.intro (hO _ (by kernel_rfl)) ?_; clear hO) | refine gA ?_ | (refine gR (M := noM) ?_; intro N hN ops hy) | (refine gDG (M := noM) ?_; intro N hN ops hy hO) | (refine WPV.condK ?_; intro A hA B hB) | (refine here ?_; refine sS ?_) | refine Both.mk ?_ ?_ | ((with_reducible refine CallO.gd 26 ?_); refine CallO.frB [] Tryd.call26 (cn) ?_) | (refine hN _ ?_; try clear hN N; try clear hy ops) | (refine hA ?_; clear hA A hB B; try simp only [hz]) | (refine hB ?_; clear hA A hB B; try simp only [hz]) | (refine gG ?_ ?_ <;> (intro hz; have h := nm hz; try (exfalso; omega)) <;> (have hz := nz hz; try subst hz)) | (rw [if_pos (show _ ∧ _ from ⟨by omega, by omega⟩)]; refine sS ?_) | refine gT ?_ | (clear hN N))
  refine WPV.loopW (α := Nat × Wtr) (fun q => l.length - q.1) (fun q => ⟨[.any, .any, .any, .any, .any, .ptr 0 0, .any, .any, .any, .any, .any, .any, .any, .any, .any, .any, .any, .any, .any, .any, .sl 6 (txs l), .sc (.int .i64 (l.length : Int)), .sc (.int .i64 ((q.1 : Nat) : Int)), .any, .any, .any, .any, .any, .any, .any, .any, .any, .any, .any, .any, .any], q.2.inn⟩) (fun q => q.1 ≤ l.length ∧ q.2.c.d.Ok ∧ rightF q.2.c.c = true ∧ goesGo ⟨o, f, Cod.new⟩ l = goesGo q.2 (l.drop q.1)) (0, ⟨o, f, Cod.new⟩) ((Desc.re [some 1, some 2, some 3, some 4, some 5] rfl).trans Desc.weakA) ⟨Nat.zero_le _, .nw, r_new, rfl⟩ (fun q hJ H => ?_)
  obtain ⟨k, w⟩ := q
  obtain ⟨j1, ok, hr, j4⟩ := hJ
  dsimp only at j1 ok hr j4 H ⊢
  by_cases h : k < l.length
  · obtain ⟨t, hg0⟩ : ∃ t, l[k] = t := ⟨_, rfl⟩
    have hget : l[k]? = some t := by rw [← hg0]; exact List.getElem?_eq_getElem h
    have hwt := hw t (hg0 ▸ List.getElem_mem h)
    rw [List.drop_eq_getElem_cons h, hg0] at j4
    obtain ⟨fr, e, w', hp⟩ : ∃ f e w', w.put t = ((f, e), w') := ⟨_, _, _, rfl⟩
    have cp := sput_e hK hp ok hr hwt
    have e1 : goesGo w (t :: l.drop (k + 1)) = if e ≠ 0 then none else goesGo w' (l.drop (k + 1)) := by
      show (if (w.put t).1.2 ≠ 0 then _ else _) = _
      rw [hp]
    rw [e1] at j4
    by_cases he : e ≠ 0
    · rw [if_pos he] at j4
      rw [j4] at hQ
      clear H j4 e1 hp hg0
      obtain ⟨wo, wn, ⟨⟨x, y, z⟩, d⟩⟩ := w
      obtain ⟨wo', wn', ⟨⟨x', y', z'⟩, d'⟩⟩ := w'
      obtain ⟨to, ts, ⟨c1, c2, c3⟩, tw⟩ := t
      dsimp only [txV] at cp
      refine loopV ?_
      have hz : True := trivial
      have hy := yieldedV_eq
      have hL := @hget
      repeat' (first | (refine WPV.seqK ?_; intro N hN) | (refine And.intro (hO _ (by kernel_rfl)) ?_; clear hO) | refine gA ?_ | (refine gR (M := noM) ?_; intro N hN ops hy) | (refine gDG (M := noM) ?_; intro N hN ops hy hO) | (refine WPV.condK ?_; intro A hA B hB) | (refine here ?_; refine sS ?_) | refine Both.mk ?_ ?_ | ((with_reducible refine CallO.gd 27 ?_); refine CallO.frB [0, 1, 2, 3, 4] Tryd.call27 (cp) ?_) | (refine hN _ ?_; try clear hN N; try clear hy ops) | (refine hA ?_; clear hA A hB B; try simp only [hz]) | (refine hB ?_; clear hA A hB B; try simp only [hz]) | (refine gG ?_ ?_ <;> (intro hz; have h := nm hz; try (exfalso; omega)) <;> (have hz := nz hz; try subst hz)) | (rw [if_pos (show _ ∧ _ from ⟨by omega, by omega⟩)]; refine sS ?_) | refine gT ?_ | (clear hN N))
      all_goals (try unfold goesV goesH at hQ)
      all_goals (first | exact retZ hQ Tryd.results31 (Desc.re [] rfl) | exact retZN hQ Tryd.results31 (Desc.re [] rfl))
    · rw [if_neg he] at j4
      have he := Decidable.not_not.1 he
      subst he
      have hok : w'.c.d.Ok ∧ rightF w'.c.c = true := by
        rcases Wtr.put_two ok hr t with ⟨e, he, p1⟩ | ⟨hc, ho, hs, p, f, x', p1, p2, p3, p4, p5, p6, p7, p8⟩
        · rw [p1] at hp; simp only [Prod.mk.injEq] at hp; exact absurd hp.1.2 he
        · rw [p3] at hp; simp only [Prod.mk.injEq] at hp; rw [← hp.2]; exact ⟨p4, p5⟩
      have H' := H (k + 1, w') ⟨h, hok.1, hok.2, j4⟩ (by dsimp only; omega)
      clear H j4 e1 hp hg0
      dsimp only at H'
      obtain ⟨wo, wn, ⟨⟨x, y, z⟩, d⟩⟩ := w
      obtain ⟨wo', wn', ⟨⟨x', y', z'⟩, d'⟩⟩ := w'
      obtain ⟨to, ts, ⟨c1, c2, c3⟩, tw⟩ := t
      dsimp only [txV] at cp
      refine loopV ?_
      have hz : True := trivial
      have hy := yieldedV_eq
      have hL := @hget
      repeat' (first | (refine WPV.seqK ?_; intro N hN) | (refine And.intro (hO _ (by kernel_rfl)) ?_; clear hO) | refine gA ?_ | (refine gR (M := noM) ?_; intro N hN ops hy) | (refine gDG (M := noM) ?_; intro N hN ops hy hO) | (refine WPV.condK ?_; intro A hA B hB) | (refine here ?_; refine sS ?_) | refine Both.mk ?_ ?_ | ((with_reducible refine CallO.gd 27 ?_); refine CallO.frB [0, 1, 2, 3, 4] Tryd.call27 (cp) ?_) | (refine hN _ ?_; try clear hN N; try clear hy ops) | (refine hA ?_; clear hA A hB B; try simp only [hz]) | (refine hB ?_; clear hA A hB B; try simp only [hz]) | (refine gG ?_ ?_ <;> (intro hz; have h := nm hz; try (exfalso; omega)) <;> (have hz := nz hz; try subst hz)) | (rw [if_pos (show _ ∧ _ from ⟨by omega, by omega⟩)]; refine sS ?_) | refine gT ?_ | (clear hN N))
      all_goals (exact rndZ (Desc.re [some 0, some 1, some 2, some 6, some 7] rfl) (H'))
  · obtain rfl : k = l.length := by omega
    rw [List.drop_length] at j4
    have e1 : goesGo ⟨o, f, Cod.new⟩ l = some w := j4
    rw [e1] at hQ
    clear H j4 e1
    refine loopV ?_
    have hz : True := trivial
    have hy := yieldedV_eq
    have hL := True.intro
    repeat' (first | (refine WPV.seqK ?_; intro N hN) | (refine And.intro (hO _ (by kernel_rfl)) ?_; clear hO) | refine gA ?_ | (refine gR (M := noM) ?_; intro N hN ops hy) | (refine gDG (M := noM) ?_; intro N hN ops hy hO) | (refine WPV.condK ?_; intro A hA B hB) | (refine here ?_; refine sS ?_) | refine Both.mk ?_ ?_ | (refine hN _ ?_; try clear hN N; try clear hy ops) | (refine hA ?_; clear hA A hB B; try simp only [hz]) | (refine hB ?_; clear hA A hB B; try simp only [hz]) | (refine gG ?_ ?_ <;> (intro hz; have h := nm hz; try (exfalso; omega)) <;> (have hz := nz hz; try subst hz)) | (rw [if_pos (show _ ∧ _ from ⟨by omega, by omega⟩)]; refine sS ?_) | refine gT ?_ | (clear hN N))
    all_goals (try unfold goesV goesH at hQ)
    all_goals (first | exact retZ hQ Tryd.results31 (Desc.re [some 0, some 1, some 2, some 3, some 4] rfl) | exact retZN hQ Tryd.results31 (Desc.re [some 0, some 1, some 2, some 3, some 4] rfl))
end Go.Proofs.YtgfnpcmehnjopaaDoor
end
section
namespace Go.Proofs.YtgfnpcmehnjopaaDoor
open Go Go.RowKit
set_option linter.unusedVariables false
set_option linter.unusedSimpArgs false
section
variable {F : Fr} {P : Program} {K : Nat → Obj → Prop}
theorem Sp.ofBOK {f : FuncId} {vs : List V} {h : List Ho} {l : List UInt8}
    (hc : ∀ (F : Fr) (φ : List Pl) (w : World) (args : Array Value), Knw K w → DenL F φ w args.toList vs → Calls P f args w (RetB w l)) : Sp P K f vs h fun u hh => u = .own 1 (bs l) h.length ∧ hh = h ++ [.tail] := by
  intro F φ w args hK hi hd
  refine (hc F φ w args (hi.knw hK) hd).mono ?_
  rintro e w' ⟨u, rfl, ho, bel⟩
  have e1 := Ext.reserve φ w
  have i1 := hi.reserve
  have hr : (φ ++ [Pl.yet])[h.length]? = some .yet := by rw [← hi.len]; simp
  have hset : ∀ x : Ho, (h ++ [Ho.yet]).set h.length x = h ++ [x] := fun x => by
    rw [List.set_append_right _ _ (Nat.le_refl _)]; simp
  obtain ⟨h1, h2⟩ := ho
  rcases h2 with ⟨rfl, h0⟩ | ⟨g, cap, cur, rfl, hb, hg, hcap, hmx, hsz, htk⟩
  · have : l = [] := List.eq_nil_of_length_eq_zero h0
    subst this
    have hp : ∀ b', (Pl.free).blk = some b' → w.heap.size ≤ b' := fun b' h => by cases h
    have e2 := Ext.fill (φ := φ ++ [.yet]) (w := w) (w' := w') .free hr bel.size (fun b hb => bel.block b hb) hp (io_below bel)
    have i2 := i1.fill (w' := w') .free .tail hr bel.size (fun b hb => bel.block b hb) hp trivial (io_below bel)
    have hat : ((φ ++ [Pl.yet]).set h.length .free)[h.length]? = some .free := List.getElem?_set_self (get_lt hr)
    rw [hset] at i2
    exact ⟨_, _, _, _, rfl, e1.trans hi e2, i2, .ownEx ⟨_, hat, by simp⟩ (.inl hat) .nil rfl, rfl, rfl⟩
  · have hp : ∀ b', (Pl.tail g l.length).blk = some b' → w.heap.size ≤ b' := fun b' h => by cases h; exact hb
    have e2 := Ext.fill (φ := φ ++ [.yet]) (w := w) (w' := w') (.tail g l.length) hr bel.size (fun b hb => bel.block b hb) hp (io_below bel)
    have hcur : ∀ (j : Nat) (y : UInt8), l[j]? = some y → cur[j]? = some (Value.int .u8 y.toNat) := fun j y hy => by
      have h3 : (cur.toList.take (l.length * 1))[j]? = some (bv y) := by rw [htk, List.getElem?_map, hy]; rfl
      rw [List.getElem?_take] at h3
      split at h3
      · rw [Array.getElem?_toList] at h3; rw [h3]; simp [bv, B]
      · cases h3
    have i2 := i1.fill (w' := w') (.tail g l.length) .tail hr bel.size (fun b hb => bel.block b hb) hp ⟨cur, ⟨_, hg⟩, by omega⟩ (io_below bel)
    have hat : ((φ ++ [Pl.yet]).set h.length (.tail g l.length))[h.length]? = some (.tail g l.length) := List.getElem?_set_self (get_lt hr)
    rw [hset] at i2
    have hold : ∀ (i : Nat) (p : Pl), ((φ ++ [Pl.yet]).set h.length (.tail g l.length))[i]? = some p → p.blk = some g → p = .tail g l.length := fun i p hp hpb => by
      rcases get_set hp with ⟨_, h, _⟩ | ⟨_, h⟩
      · exact h
      · have := i1.lt h hpb; omega
    refine ⟨_, _, _, _, rfl, e1.trans hi e2, i2, ?_, rfl, rfl⟩
    have hden : DenD F ((φ ++ [Pl.yet]).set h.length (.tail g l.length)) w' (.slice (some ⟨g, 0, none⟩) l.length cap) (.sl 1 (bs l)) := by
      refine .sl (fun i _ => .int .u8 ((l[i]?).getD 0).toNat) (bs_len l) ⟨hcap, hmx⟩ (fun i e he => ?_) (fun i j hlt hj => ?_) (fun i e j x he hx => ?_)
      · rw [bs_get] at he
        obtain ⟨y, _, rfl⟩ := Option.map_eq_some_iff.1 he
        rfl
      · obtain rfl : j = 0 := by omega
        have hy : l[i]? = some l[i] := List.getElem?_eq_getElem hlt
        have h3 := hcur i _ hy
        refine ⟨⟨heap_lt hg, fun i hi' => ?_, fun i' e' hi' => ?_, fun hF => ?_⟩, ?_⟩
        · cases hold i _ hi' rfl
        · cases hold i' _ hi' rfl; omega
        · have := hi.frB _ _ hF; omega
        · rw [cell_of]
          refine ⟨cur, _, (0, 0), hg, ?_⟩
          simpa [hy] using h3
      · rw [bs_get] at he
        obtain ⟨y, hy, rfl⟩ := Option.map_eq_some_iff.1 he
        cases j with
        | zero => simp at hx; subst hx; simp only [hy, Option.getD_some]; exact .sc rfl
        | succ j => simp at hx
    refine .own ⟨_, hat, by simp⟩ hden (bs_len l) (fun b' e' hb' => ?_) (fun hb' => ?_) (fun b' hb' => ?_)
    · rw [hat] at hb'; cases hb'
      exact ⟨rfl, by omega, cur, _, hg, hsz⟩
    · rw [hat] at hb'; cases hb'
    · rw [hat] at hb'; cases hb'
end
variable {K : Nat → Obj → Prop}
theorem sealO_s (hK : KT K) (l : List UInt8) (hl : l.length ≤ 1000000000) : Sp Tryd.prog K 36 [.sl 1 (bs l)] [] fun u hh => u = .own 1 (bs (sealF l)) 0 ∧ hh = [.tail] :=
  .ofBOK (h := []) fun F φ w args hk hd => by
    obtain ⟨r, rfl, h1⟩ := args1 hd
    exact seal_c r l w (hK.tab hk) (den_in h1).sb hl
set_option maxRecDepth 100000 in
set_option maxHeartbeats 1000000 in
theorem wrapO_s (hK : KT K) (p : List UInt8) (hl : p.length ≤ 8192) : Sp Tryd.prog K 23 [.sl 1 (bs p)] [] fun u hh => u = .tup [.own 1 (bs (wrapF p).1) 0, .sc (.int .i64 0)] ∧ hh = [.tail] := by
  have hv := vput_len (n := p.length) (by omega)
  have cs := sealO_s hK (vput p.length ++ p) (by rw [List.length_append]; omega)
  have e : (wrapF p).1 = sealF (vput p.length ++ p) := by unfold wrapF; rw [if_neg (by omega)]
  rw [e]
  generalize sealF (vput p.length ++ p) = q at *
  refine Sp.of_bodyE Tryd.func23 rfl ?_
  intro Q hQ
  simp only [List.replicate, List.length_cons, List.length_nil, Tryd.ntmps23, Nat.reduceAdd, Nat.reduceSub, List.cons_append, List.nil_append, go_sem]
  have hz : True := trivial
  have hy := yieldedV_eq
  have hL := True.intro
  repeat' (first | (refine WPV.seqK ?_; intro N hN) | refine gA ?_ | (refine gR (M := noM) ?_; intro N hN ops hy) | (refine gD (M := noM) ?_; intro N hN; have hy := yieldedV_eq) | (refine WPV.condK ?_; intro A hA B hB) | (refine here ?_; refine sS ?_) | refine Both.mk ?_ ?_ | ((with_reducible refine CallO.gd 62 ?_); refine CallO.frB [] Tryd.call62 (vputO_s (m := (p.length : Int)) (by omega) (by omega)) ?_) | ((with_reducible refine CallO.gd 36 ?_); refine CallO.frB [] Tryd.call36 (cs) ?_) | (refine hN _ ?_; try clear hN N; try clear hy ops) | (refine hA ?_; clear hA A hB B; try simp only [hz]) | (refine hB ?_; clear hA A hB B; try simp only [hz]) | (refine gG ?_ ?_ <;> (intro hz; have h := nm hz; try (exfalso; omega)) <;> (have hz := nz hz; try subst hz)) | (rw [if_pos (show _ ∧ _ from ⟨by omega, by omega⟩)]; refine sS ?_) | refine gT ?_ | (clear hN N))
  all_goals (first | exact retZ hQ Tryd.results23 (Desc.re [some 2] rfl) | exact retZN hQ Tryd.results23 (Desc.re [some 2] rfl))
end Go.Proofs.YtgfnpcmehnjopaaDoor
end
