/-
  Own work. The law, plainly: it says true.
-/
import Derived.Test.YtfkaffmfhnkebaaDvd
namespace Go.Pf
open Go Go.Pu
theorem law_FnExactRouteNodeOk (x : ((Int × (Int × (Int × Int))) × Int)) (h : InR (tP (tP tI (tP tI (tP tI tI))) tI) x) : laws_FnExactRouteNodeOk x = some true := by
  obtain ⟨d, n⟩ := x
  unfold laws_FnExactRouteNodeOk laws_toDevice
  simp only [Option.bind_some, rnOk_spec, rnOk_impl, beq_self_eq_true, Bool.xor_self, cond_false]
end Go.Pf
