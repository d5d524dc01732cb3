/-
  Proved here: the law FnExactOutNodes returns true for all arguments and leaves them as they were. No further condition.
-/
import Derived.Test.YtlfmlhoajobafaaLawOutNodes
import Derived.Test.YtlfmlhoajobafaaEOutNodes
import Derived.Test.YtlfmlhoajobafaaIni
import Derived.Test.YtlfmlhoajobafaaRows
namespace Go.Proofs.Ytlfmlhoajobafaa
open Go Go.Pu Go.Proofs Go.ChangeShapes Go.WideShapes Go.ChangeAt Go.RowKit
set_option linter.unusedVariables false

namespace fnExactOutNodes
theorem own : ownKnob Try.prog.godebug = none := by kernel_rfl
theorem law (x : sg10.p.den) (h : InR sg10.p x) : ∃ y, fn10 x = some y ∧ V.c ⟨sg10.r, y⟩ = .bool true :=
  ⟨true, by rw [eq10]; exact Pf.law_FnExactOutNodes x h, rfl⟩
set_option maxRecDepth 100000 in
theorem lifted (os : Os) (started : os.Started) (H : Type) (enc : TypeId × Value → H) :
    ReturnsInHanded {} Try.checked os 10 .any (Rows.fnExactOutNodesSpec.pre6 enc Try.prog Try.f10 Rows.fnExactOutNodesRow.domain false) (Rows.fnExactOutNodesSpec.post enc Try.prog Try.f10 false true false false) := by
  refine returnsInHanded_of_change (C := Try.checked) own started (by kernel_rfl) Try.func10
    (ChangeSpec.witness6 (enc := enc) (C := Try.checked) false ⟨#[], #[.agg #[.int .i64 0, .slice none 0 0, .slice none 0 0, .slice none 0 0], .agg #[.int .i64 0, .int .i64 0, .slice none 0 0]], []⟩ 8 (by kernel_rfl) (by kernel_rfl) (by kernel_rfl) (by kernel_rfl)) ?_
  intro W base args ds gs before hval hW _ _
  have hsz : Try.f10.params.size = 2 := by kernel_rfl
  exact law_post (P := Try.prog) (fn := Try.f10) (sg := sg10) (F := fn10) (tb := 4) (by kernel_rfl) (by kernel_rfl) (by kernel_rfl) (by kernel_rfl) rfl rfl Try.underlying4 rfl
    (fun ds h => by rw [hsz] at h; match ds, h with | [_, _], _ => rfl) law spec10 W base args ds gs before hval hW
theorem facts : joinedFacts Try.prog 10 Try.f10 Rows.fnExactOutNodesSpec Rows.fnExactOutNodesRow = true := by
  unfold joinedFacts
  rw [Ini.enter, Ini.lifts, Ini.make]
  kernel_rfl
theorem over : Rows.fnExactOutNodesRow.holds Try.pinned (OpenSpec.ofChange Rows.fnExactOutNodesSpec) :=
  OpenClaim.holds_of_wide 10 Try.f10 rfl rfl rfl rfl rfl rfl rfl ⟨rfl, rfl, rfl, rfl, rfl⟩ rfl rfl rfl rfl rfl (by kernel_rfl) Try.func10 facts
    (of_decide_eq_true (by kernel_rfl)) (by unfold Func.isWrapper; first | (rw [if_pos (by decide +kernel)]; kernel_rfl) | (rw [if_neg (by decide +kernel)]; exact ⟨rfl, rfl⟩))
    (fun os started H enc _ => lifted os started H enc)
/-- The statement. -/
theorem proved : Rows.FnExactOutNodesSaid := over
end fnExactOutNodes
end Go.Proofs.Ytlfmlhoajobafaa
