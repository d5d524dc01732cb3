/-
  Own work. The law, plainly: it says true.
-/
import Derived.Test.YtfkaffmfhnkebaaDve
namespace Go.Pf
open Go Go.Pu
theorem law_FnExactWireReaches (x : ((Int × (Int × (Int × Int))) × Int)) (h : InR (tP (tP tI (tP tI (tP tI tI))) tI) x) : laws_FnExactWireReaches x = some true := by
  obtain ⟨d, n⟩ := x
  have hl := reaches_len d n
  unfold laws_FnExactWireReaches laws_toDevice
  simp only [Option.bind_some, reaches_spec, reaches_impl, eqIntS_ok (reaches d n) (reaches d n) (by omega), decide_true, Bool.not_true, cond_false]
  rw [markIntS_ok (reaches d n) 1 (by omega) (by omega) (by omega)]
  simp only [Option.bind_some, heldIntS_ok 1 (reaches d n).length (by omega) (by omega) (by omega), df (show ¬ (1 + ((reaches d n).length : Int) < 0) by omega), cond_false, ne_eq, not_true_eq_false, decide_false]
end Go.Pf
