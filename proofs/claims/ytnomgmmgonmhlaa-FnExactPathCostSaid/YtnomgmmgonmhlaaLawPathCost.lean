/-
  Own work. The law, plainly: it says true.
-/
import Derived.Test.YtnomgmmgonmhlaaRok
namespace Go.Pf
open Go Go.Pu
theorem law_FnExactPathCost (x : ((Int × (Int × (Int × Int))) × (List Int × List Int))) (h : InR (tP (tP tI (tP tI (tP tI tI))) (tP (tS 0 tI) (tS 0 tI))) x) : laws_FnExactPathCost x = some true := by
  obtain ⟨d, a, b⟩ := x
  unfold laws_FnExactPathCost laws_toDevice
  simp only
  by_cases h1 : 1048576 < (a.length : Int)
  · rw [dt h1]; rfl
  rw [df h1, cond_false]
  by_cases h2 : 1048576 < (b.length : Int)
  · rw [dt h2]; rfl
  rw [df h2, cond_false]
  obtain ⟨v, hs, hi⟩ := pathCost_ok d a b (by omega) (by omega)
  simp only [toIntS_ok a (by omega), toIntS_ok b (by omega), Option.bind_some, hs, hi, ne_eq, not_true_eq_false, decide_false, cond_false, eqIntS_ok a a (by omega), eqIntS_ok b b (by omega), decide_true, Bool.not_true]
end Go.Pf
