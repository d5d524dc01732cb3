/-
  Own work. The law of paths, plainly: it says true.
-/
import Derived.Test.YtjpkedhcbnklmaaPath
namespace Go.Pf
open Go Go.Pu
theorem eqRoute_ok (a b c d : List Int) (ha : a.length ≤ 1048576) (hb : b.length ≤ 1048576) : laws_eqRoute ((a, b), (c, d)) = some (decide (a = c ∧ b = d)) := by
  unfold laws_eqRoute
  simp only [eqIntS_ok a c (by omega), eqIntS_ok b d (by omega), Option.bind_some]
  by_cases h1 : a = c
  · by_cases h2 : b = d
    · simp [h1, h2]
    · simp [h1, h2]
  · simp [h1]
end Go.Pf

