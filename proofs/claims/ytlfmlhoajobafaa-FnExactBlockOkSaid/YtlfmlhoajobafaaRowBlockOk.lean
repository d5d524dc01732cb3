/-
  Proved here: the law FnExactBlockOk returns true for all arguments and leaves them as they were. No further condition.
-/
import Derived.Test.YtlfmlhoajobafaaLawBlockOk
import Derived.Test.YtlfmlhoajobafaaEBlockOk
import Derived.Test.YtlfmlhoajobafaaIni
import Derived.Test.YtlfmlhoajobafaaRows
namespace Go.Proofs.Ytlfmlhoajobafaa
open Go Go.Pu Go.Proofs Go.ChangeShapes Go.WideShapes Go.ChangeAt Go.RowKit
set_option linter.unusedVariables false

namespace fnExactBlockOk
theorem own : ownKnob Try.prog.godebug = none := by kernel_rfl
theorem law (x : sg11.p.den) (h : InR sg11.p x) : ∃ y, fn11 x = some y ∧ V.c ⟨sg11.r, y⟩ = .bool true :=
  ⟨true, by rw [eq11]; exact Pf.law_FnExactBlockOk x h, rfl⟩
set_option maxRecDepth 100000 in
theorem lifted (os : Os) (started : os.Started) (H : Type) (enc : TypeId × Value → H) :
    ReturnsInHanded {} Try.checked os 11 .any (Rows.fnExactBlockOkSpec.pre6 enc Try.prog Try.f11 Rows.fnExactBlockOkRow.domain false) (Rows.fnExactBlockOkSpec.post enc Try.prog Try.f11 false true false false) := by
  refine returnsInHanded_of_change (C := Try.checked) own started (by kernel_rfl) Try.func11
    (ChangeSpec.witness6 (enc := enc) (C := Try.checked) false ⟨#[], #[.agg #[.int .i64 0, .slice none 0 0, .slice none 0 0, .slice none 0 0], .agg #[.int .i64 0, .int .i64 0, .slice none 0 0]], []⟩ 8 (by kernel_rfl) (by kernel_rfl) (by kernel_rfl) (by kernel_rfl)) ?_
  intro W base args ds gs before hval hW _ _
  have hsz : Try.f11.params.size = 2 := by kernel_rfl
  exact law_post (P := Try.prog) (fn := Try.f11) (sg := sg11) (F := fn11) (tb := 4) (by kernel_rfl) (by kernel_rfl) (by kernel_rfl) (by kernel_rfl) rfl rfl Try.underlying4 rfl
    (fun ds h => by rw [hsz] at h; match ds, h with | [_, _], _ => rfl) law spec11 W base args ds gs before hval hW
theorem facts : joinedFacts Try.prog 11 Try.f11 Rows.fnExactBlockOkSpec Rows.fnExactBlockOkRow = true := by
  unfold joinedFacts
  rw [Ini.enter, Ini.lifts, Ini.make]
  kernel_rfl
theorem over : Rows.fnExactBlockOkRow.holds Try.pinned (OpenSpec.ofChange Rows.fnExactBlockOkSpec) :=
  OpenClaim.holds_of_wide 11 Try.f11 rfl rfl rfl rfl rfl rfl rfl ⟨rfl, rfl, rfl, rfl, rfl⟩ rfl rfl rfl rfl rfl (by kernel_rfl) Try.func11 facts
    (of_decide_eq_true (by kernel_rfl)) (by unfold Func.isWrapper; first | (rw [if_pos (by decide +kernel)]; kernel_rfl) | (rw [if_neg (by decide +kernel)]; exact ⟨rfl, rfl⟩))
    (fun os started H enc _ => lifted os started H enc)
/-- The statement. -/
theorem proved : Rows.FnExactBlockOkSaid := over
end fnExactBlockOk
end Go.Proofs.Ytlfmlhoajobafaa
