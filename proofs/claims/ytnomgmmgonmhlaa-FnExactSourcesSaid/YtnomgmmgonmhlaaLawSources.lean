/-
  Own work. The law, plainly: it says true.
-/
import Derived.Test.YtnomgmmgonmhlaaSrc
namespace Go.Pf
open Go Go.Pu
theorem law_FnExactSources (x : ((Int × (Int × (Int × Int))) × Int)) (h : InR (tP (tP tI (tP tI (tP tI tI))) tI) x) : laws_FnExactSources x = some true := by
  obtain ⟨d, n⟩ := x
  unfold laws_FnExactSources laws_toDevice
  have hlen : (srcsP d n).length ≤ 1048576 := Nat.le_trans (srcsP_len d n) (by decide)
  simp only [srcs_spec, srcs_impl, Option.bind_some, eqIntS_ok (srcsP d n) (srcsP d n) (by omega), decide_true, Bool.not_true, cond_false]
  rw [markIntS_ok (srcsP d n) 1 (by omega) (by omega) hlen]
  simp only [Option.bind_some, heldIntS_ok 1 (srcsP d n).length (by omega) (by omega) hlen, df (show ¬ (1 + ((srcsP d n).length : Int) < 0) by omega), cond_false, ne_eq, not_true_eq_false, decide_false]
end Go.Pf
