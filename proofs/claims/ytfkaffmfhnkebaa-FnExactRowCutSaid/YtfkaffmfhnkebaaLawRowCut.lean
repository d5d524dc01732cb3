/-
  Own work. The law, plainly: it says true.
-/
import Derived.Test.YtfkaffmfhnkebaaCut
namespace Go.Pf
open Go Go.Pu
theorem law_FnExactRowCut (x : ((Int × (Int × (Int × Int))) × Int)) (h : InR (tP (tP tI (tP tI (tP tI tI))) tI) x) : laws_FnExactRowCut x = some true := by
  obtain ⟨d, n⟩ := x
  have hl := rowP_len d n
  unfold laws_FnExactRowCut laws_toDevice
  simp only [Option.bind_some, row_spec, row_impl, eqIntS_ok (rowP d n) (rowP d n) (by omega), decide_true, Bool.not_true, cond_false]
  rw [markIntS_ok (rowP d n) 1 (by omega) (by omega) (by omega)]
  simp only [Option.bind_some, heldIntS_ok 1 (rowP d n).length (by omega) (by omega) (by omega), df (show ¬ (1 + ((rowP d n).length : Int) < 0) by omega), cond_false, ne_eq, not_true_eq_false, decide_false]
end Go.Pf
