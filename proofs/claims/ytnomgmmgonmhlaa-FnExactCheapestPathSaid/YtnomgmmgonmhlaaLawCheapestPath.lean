/-
  Own work. The law, plainly: it says true.
-/
import Derived.Test.YtnomgmmgonmhlaaCpa
namespace Go.Pf
open Go Go.Pu
theorem law_FnExactCheapestPath (x : ((Int × (Int × (Int × Int))) × (List Int × (List Int × Int)))) (h : InR (tP (tP tI (tP tI (tP tI tI))) (tP (tS 0 tI) (tP (tS 0 tI) tI))) x) : laws_FnExactCheapestPath x = some true := by
  obtain ⟨d, a, b, t⟩ := x
  unfold laws_FnExactCheapestPath laws_toDevice
  simp only
  by_cases h1 : 1048576 < (a.length : Int)
  · rw [dt h1]; rfl
  rw [df h1, cond_false]
  by_cases h2 : 1048576 < (b.length : Int)
  · rw [dt h2]; rfl
  rw [df h2, cond_false]
  obtain ⟨o, hl, hs, hi⟩ := cheapest_ok d a b t (by omega) (by omega)
  simp only [toIntS_ok a (by omega), toIntS_ok b (by omega), Option.bind_some, hs, hi, cond_false, eqIntS_ok a a (by omega), eqIntS_ok b b (by omega), eqIntS_ok o o (by omega), decide_true, Bool.not_true]
  rw [markIntS_ok a 1 (by omega) (by omega) (by omega)]
  simp only [Option.bind_some]
  rw [markIntS_ok b (1 + (a.length : Int)) (by omega) (by omega) (by omega)]
  simp only [Option.bind_some]
  rw [df (show ¬ (1 + (a.length : Int) + (b.length : Int) < 0) by omega), cond_false, markIntS_ok o 1 (by omega) (by omega) (by omega)]
  simp only [Option.bind_some, heldIntS_ok 1 o.length (by omega) (by omega) (by omega), df (show ¬ (1 + (o.length : Int) < 0) by omega), cond_false, ne_eq, not_true_eq_false, decide_false]
end Go.Pf
