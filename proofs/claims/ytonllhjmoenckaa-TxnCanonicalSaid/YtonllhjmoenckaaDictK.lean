/- A dictionary's Put and Take, by what they tell. -/
import Derived.Test.YtonllhjmoenckaaDictL
import Derived.Test.YtonllhjmoenckaaDictX
namespace Go.Proofs.Ytonllhjmoenckaa
open Go Go.RowKit
set_option linter.unusedVariables false
set_option linter.unusedSimpArgs false
variable {K : Nat → Obj → Prop}
theorem dput_e {d d' : Di} {k : ByteArray} {r : List UInt8 × Int} (h : d.put k = (r, d')) (ok : d.Ok) : Sp Try.prog K 35 [.ptr 0 0, .sc (.string k)] d.inn fun u hh => u = dpV r ∧ hh = d'.out := by
  have := dput_s (K := K) d k ok.sta ok.len ok.e8 (ok.at8 k)
  rwa [h] at this
theorem dtake_e {d d' : Di} {b : List UInt8} {r : Tk} (h : d.take b = (r, d')) (ok : d.Ok) (hl : b.length ≤ 1000000) : Sp Try.prog K 38 [.ptr 0 0, .sl 1 (bs b)] d.inn fun u hh => u = dtV r ∧ hh = d'.out := by
  have := dtake_s (K := K) d b hl ok.sta ok.len ok.e8
  rwa [h] at this
theorem Di.Ok.pe {d d' : Di} {k : ByteArray} {r : List UInt8 × Int} (ok : d.Ok) (h : d.put k = (r, d')) : d'.Ok := by
  have := ok.put k
  rwa [h] at this
theorem Di.Ok.te {d d' : Di} {b : List UInt8} {r : Tk} (ok : d.Ok) (h : d.take b = (r, d')) : d'.Ok := by
  have := ok.take b
  rwa [h] at this
end Go.Proofs.Ytonllhjmoenckaa
