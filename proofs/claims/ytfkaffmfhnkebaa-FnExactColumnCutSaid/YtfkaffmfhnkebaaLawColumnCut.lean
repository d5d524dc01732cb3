/-
  Own work. The law, plainly: it says true.
-/
import Derived.Test.YtfkaffmfhnkebaaCut
namespace Go.Pf
open Go Go.Pu
theorem law_FnExactColumnCut (x : ((Int × (Int × (Int × Int))) × Int)) (h : InR (tP (tP tI (tP tI (tP tI tI))) tI) x) : laws_FnExactColumnCut x = some true := by
  obtain ⟨d, n⟩ := x
  have hl := colP_len d n
  unfold laws_FnExactColumnCut laws_toDevice
  simp only [Option.bind_some, col_spec, col_impl, eqIntS_ok (colP d n) (colP d n) (by omega), decide_true, Bool.not_true, cond_false]
  rw [markIntS_ok (colP d n) 1 (by omega) (by omega) (by omega)]
  simp only [Option.bind_some, heldIntS_ok 1 (colP d n).length (by omega) (by omega) (by omega), df (show ¬ (1 + ((colP d n).length : Int) < 0) by omega), cond_false, ne_eq, not_true_eq_false, decide_false]
end Go.Pf
