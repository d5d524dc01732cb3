/-
  Proved here: the law FnExactLeInputs returns true for all arguments and leaves them as they were. No further condition.
-/
import Derived.Test.YtlfmlhoajobafaaLawLeInputs
import Derived.Test.YtlfmlhoajobafaaELeInputs
import Derived.Test.YtlfmlhoajobafaaIni
import Derived.Test.YtlfmlhoajobafaaRows
namespace Go.Proofs.Ytlfmlhoajobafaa
open Go Go.Pu Go.Proofs Go.ChangeShapes Go.WideShapes Go.ChangeAt Go.RowKit
set_option linter.unusedVariables false

namespace fnExactLeInputs
theorem own : ownKnob Try.prog.godebug = none := by kernel_rfl
theorem law (x : sg9.p.den) (h : InR sg9.p x) : ∃ y, fn9 x = some y ∧ V.c ⟨sg9.r, y⟩ = .bool true :=
  ⟨true, by rw [eq9]; exact Pf.law_FnExactLeInputs x h, rfl⟩
set_option maxRecDepth 100000 in
theorem lifted (os : Os) (started : os.Started) (H : Type) (enc : TypeId × Value → H) :
    ReturnsInHanded {} Try.checked os 9 .any (Rows.fnExactLeInputsSpec.pre6 enc Try.prog Try.f9 Rows.fnExactLeInputsRow.domain false) (Rows.fnExactLeInputsSpec.post enc Try.prog Try.f9 false true false false) := by
  refine returnsInHanded_of_change (C := Try.checked) own started (by kernel_rfl) Try.func9
    (ChangeSpec.witness6 (enc := enc) (C := Try.checked) false ⟨#[], #[.agg #[.int .i64 0, .slice none 0 0, .slice none 0 0, .slice none 0 0], .agg #[.int .i64 0, .int .i64 0]], []⟩ 8 (by kernel_rfl) (by kernel_rfl) (by kernel_rfl) (by kernel_rfl)) ?_
  intro W base args ds gs before hval hW _ _
  have hsz : Try.f9.params.size = 2 := by kernel_rfl
  exact law_post (P := Try.prog) (fn := Try.f9) (sg := sg9) (F := fn9) (tb := 4) (by kernel_rfl) (by kernel_rfl) (by kernel_rfl) (by kernel_rfl) rfl rfl Try.underlying4 rfl
    (fun ds h => by rw [hsz] at h; match ds, h with | [_, _], _ => rfl) law spec9 W base args ds gs before hval hW
theorem facts : joinedFacts Try.prog 9 Try.f9 Rows.fnExactLeInputsSpec Rows.fnExactLeInputsRow = true := by
  unfold joinedFacts
  rw [Ini.enter, Ini.lifts, Ini.make]
  kernel_rfl
theorem over : Rows.fnExactLeInputsRow.holds Try.pinned (OpenSpec.ofChange Rows.fnExactLeInputsSpec) :=
  OpenClaim.holds_of_wide 9 Try.f9 rfl rfl rfl rfl rfl rfl rfl ⟨rfl, rfl, rfl, rfl, rfl⟩ rfl rfl rfl rfl rfl (by kernel_rfl) Try.func9 facts
    (of_decide_eq_true (by kernel_rfl)) (by unfold Func.isWrapper; first | (rw [if_pos (by decide +kernel)]; kernel_rfl) | (rw [if_neg (by decide +kernel)]; exact ⟨rfl, rfl⟩))
    (fun os started H enc _ => lifted os started H enc)
/-- The statement. -/
theorem proved : Rows.FnExactLeInputsSaid := over
end fnExactLeInputs
end Go.Proofs.Ytlfmlhoajobafaa
