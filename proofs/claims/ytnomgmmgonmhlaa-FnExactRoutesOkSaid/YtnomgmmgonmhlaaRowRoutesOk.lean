/-
  Proved here: the law FnExactRoutesOk returns true for all arguments and leaves them as they were. No further condition.
-/
import Derived.Test.YtnomgmmgonmhlaaLawRoutesOk
import Derived.Test.YtnomgmmgonmhlaaERoutesOk
import Derived.Test.YtnomgmmgonmhlaaIni
import Derived.Test.YtnomgmmgonmhlaaRows
namespace Go.Proofs.Ytnomgmmgonmhlaa
open Go Go.Pu Go.Proofs Go.ChangeShapes Go.WideShapes Go.ChangeAt Go.RowKit
set_option linter.unusedVariables false

namespace fnExactRoutesOk
theorem own : ownKnob Try.prog.godebug = none := by kernel_rfl
theorem law (x : sg12.p.den) (h : InR sg12.p x) : ∃ y, fn12 x = some y ∧ V.c ⟨sg12.r, y⟩ = .bool true :=
  ⟨true, by rw [eq12]; exact Pf.law_FnExactRoutesOk x h, rfl⟩
set_option maxRecDepth 100000 in
theorem lifted (os : Os) (started : os.Started) (H : Type) (enc : TypeId × Value → H) :
    ReturnsInHanded {} Try.checked os 12 .any (Rows.fnExactRoutesOkSpec.pre6 enc Try.prog Try.f12 Rows.fnExactRoutesOkRow.domain false) (Rows.fnExactRoutesOkSpec.post enc Try.prog Try.f12 false true false false) := by
  refine returnsInHanded_of_change (C := Try.checked) own started (by kernel_rfl) Try.func12
    (ChangeSpec.witness6 (enc := enc) (C := Try.checked) false ⟨#[], #[.agg #[.int .i64 0, .int .i64 0, .int .i64 0, .int .i64 0], .slice none 0 0, .slice none 0 0, .slice none 0 0], []⟩ 8 (by kernel_rfl) (by kernel_rfl) (by kernel_rfl) (by kernel_rfl)) ?_
  intro W base args ds gs before hval hW _ _
  have hsz : Try.f12.params.size = 4 := by kernel_rfl
  exact law_post (P := Try.prog) (fn := Try.f12) (sg := sg12) (F := fn12) (tb := 4) (by kernel_rfl) (by kernel_rfl) (by kernel_rfl) (by kernel_rfl) rfl rfl Try.underlying4 rfl
    (fun ds h => by rw [hsz] at h; match ds, h with | [_, _, _, _], _ => rfl) law spec12 W base args ds gs before hval hW
theorem facts : joinedFacts Try.prog 12 Try.f12 Rows.fnExactRoutesOkSpec Rows.fnExactRoutesOkRow = true := by
  unfold joinedFacts
  rw [Ini.enter, Ini.lifts, Ini.make]
  kernel_rfl
theorem over : Rows.fnExactRoutesOkRow.holds Try.pinned (OpenSpec.ofChange Rows.fnExactRoutesOkSpec) :=
  OpenClaim.holds_of_wide 12 Try.f12 rfl rfl rfl rfl rfl rfl rfl ⟨rfl, rfl, rfl, rfl, rfl⟩ rfl rfl rfl rfl rfl (by kernel_rfl) Try.func12 facts
    (of_decide_eq_true (by kernel_rfl)) (by unfold Func.isWrapper; first | (rw [if_pos (by decide +kernel)]; kernel_rfl) | (rw [if_neg (by decide +kernel)]; exact ⟨rfl, rfl⟩))
    (fun os started H enc _ => lifted os started H enc)
/-- The statement. -/
theorem proved : Rows.FnExactRoutesOkSaid := over
end fnExactRoutesOk
end Go.Proofs.Ytnomgmmgonmhlaa
