/- Clocks come back from their bytes: the law's contract. -/
import Derived.Test.YtfcbpdokilidgaaVsC211
import Derived.Test.YtfcbpdokilidgaaVsC210
import Derived.Test.YtfcbpdokilidgaaVsC201
import Derived.Test.YtfcbpdokilidgaaVsC200
import Derived.Test.YtfcbpdokilidgaaVsC2L
namespace Go.Proofs.Ytfcbpdokilidgaa
open Go Go.RowKit
set_option linter.unusedVariables false
set_option linter.unusedSimpArgs false
theorem back_s (p c : Clk) (s : List UInt8) : Sp Try.prog K0 8 [clkV p, clkV c, .sl 1 (bs s)] [] fun v h => v = .sc (.bool true) := by
  by_cases hs : s.length ≤ 500
  case neg => exact back_wL p c s (by omega) trivial trivial trivial trivial trivial trivial
  obtain ⟨⟨t, n, er⟩, hT⟩ : ∃ T, ctakeF p s = T := ⟨_, rfl⟩
  obtain ⟨⟨l, f⟩, hP2⟩ : ∃ T, cputF p c = T := ⟨_, rfl⟩
  have h2 : (f = 1 ∧ l = []) ∨ (f = 0 ∧ ctakeF p (l ++ s) = (c, l.length, 0) ∧ l.length ≤ 30) := by
    by_cases hr : rightF p = true ∧ rightF c = true
    · have e : cputF p c = (zz (c.x - p.x) ++ zz (c.y - p.y) ++ zz (c.z - p.z), 0) := if_pos hr
      have h := take_put p c s hr.1 hr.2
      rw [hP2] at e h
      cases e
      refine .inr ⟨rfl, h, ?_⟩
      have h1 := zz_len (c.x - p.x)
      have h2 := zz_len (c.y - p.y)
      have h3 := zz_len (c.z - p.z)
      simp only [List.length_append]; omega
    · have e : cputF p c = ([], 1) := if_neg hr
      rw [hP2] at e
      cases e
      exact .inl ⟨rfl, rfl⟩
  have h1 : er ≠ 0 ∨ (er = 0 ∧ rightF t = true ∧ cputF p t = (s.take n, 0) ∧ 3 ≤ n ∧ n ≤ s.length) := by
    by_cases h : er = 0
    · have := ctake_ok (p := p) (s := s) (by rw [hT]; exact h)
      rw [hT] at this
      exact .inr ⟨h, this⟩
    · exact .inl h
  rcases h1 with her | ⟨rfl, hrt, hP, h3, hn⟩
  · rcases h2 with ⟨rfl, rfl⟩ | ⟨rfl, hT2, hl⟩
    · exact back_w11 p c t s n er [] 0 hs hT her trivial trivial trivial hP2 trivial trivial trivial trivial
    · exact back_w10 p c t s n er l 0 hs hT her trivial trivial trivial hP2 hT2 trivial hl (by omega) (by omega)
  · rcases h2 with ⟨rfl, rfl⟩ | ⟨rfl, hT2, hl⟩
    · exact back_w01 p c t s n 0 [] 0 hs hT trivial hP hrt (by omega) h3 hP2 trivial trivial trivial trivial
    · exact back_w00 p c t s n 0 l 0 hs hT trivial hP hrt (by omega) h3 hP2 hT2 trivial hl (by omega) (by omega)
#print axioms back_s
end Go.Proofs.Ytfcbpdokilidgaa
