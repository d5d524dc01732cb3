/-
  Proved here: the law FnExactIsSeparated returns true for all arguments and leaves them as they were. No further condition.
-/
import Derived.Test.YtnomgmmgonmhlaaLawIsSeparated
import Derived.Test.YtnomgmmgonmhlaaEIsSeparated
import Derived.Test.YtnomgmmgonmhlaaIni
import Derived.Test.YtnomgmmgonmhlaaRows
namespace Go.Proofs.Ytnomgmmgonmhlaa
open Go Go.Pu Go.Proofs Go.ChangeShapes Go.WideShapes Go.ChangeAt Go.RowKit
set_option linter.unusedVariables false

namespace fnExactIsSeparated
theorem own : ownKnob Try.prog.godebug = none := by kernel_rfl
theorem law (x : sg9.p.den) (h : InR sg9.p x) : ∃ y, fn9 x = some y ∧ V.c ⟨sg9.r, y⟩ = .bool true :=
  ⟨true, by rw [eq9]; exact Pf.law_FnExactIsSeparated x h, rfl⟩
set_option maxRecDepth 100000 in
theorem lifted (os : Os) (started : os.Started) (H : Type) (enc : TypeId × Value → H) :
    ReturnsInHanded {} Try.checked os 9 .any (Rows.fnExactIsSeparatedSpec.pre6 enc Try.prog Try.f9 Rows.fnExactIsSeparatedRow.domain false) (Rows.fnExactIsSeparatedSpec.post enc Try.prog Try.f9 false true false false) := by
  refine returnsInHanded_of_change (C := Try.checked) own started (by kernel_rfl) Try.func9
    (ChangeSpec.witness6 (enc := enc) (C := Try.checked) false ⟨#[], #[.agg #[.int .i64 0, .int .i64 0, .int .i64 0, .int .i64 0], .slice none 0 0, .agg #[.int .i64 0, .int .i64 0, .int .i64 0, .slice none 0 0], .slice none 0 0], []⟩ 8 (by kernel_rfl) (by kernel_rfl) (by kernel_rfl) (by kernel_rfl)) ?_
  intro W base args ds gs before hval hW _ _
  have hsz : Try.f9.params.size = 4 := by kernel_rfl
  exact law_post (P := Try.prog) (fn := Try.f9) (sg := sg9) (F := fn9) (tb := 4) (by kernel_rfl) (by kernel_rfl) (by kernel_rfl) (by kernel_rfl) rfl rfl Try.underlying4 rfl
    (fun ds h => by rw [hsz] at h; match ds, h with | [_, _, _, _], _ => rfl) law spec9 W base args ds gs before hval hW
theorem facts : joinedFacts Try.prog 9 Try.f9 Rows.fnExactIsSeparatedSpec Rows.fnExactIsSeparatedRow = true := by
  unfold joinedFacts
  rw [Ini.enter, Ini.lifts, Ini.make]
  kernel_rfl
theorem over : Rows.fnExactIsSeparatedRow.holds Try.pinned (OpenSpec.ofChange Rows.fnExactIsSeparatedSpec) :=
  OpenClaim.holds_of_wide 9 Try.f9 rfl rfl rfl rfl rfl rfl rfl ⟨rfl, rfl, rfl, rfl, rfl⟩ rfl rfl rfl rfl rfl (by kernel_rfl) Try.func9 facts
    (of_decide_eq_true (by kernel_rfl)) (by unfold Func.isWrapper; first | (rw [if_pos (by decide +kernel)]; kernel_rfl) | (rw [if_neg (by decide +kernel)]; exact ⟨rfl, rfl⟩))
    (fun os started H enc _ => lifted os started H enc)
/-- The statement. -/
theorem proved : Rows.FnExactIsSeparatedSaid := over
end fnExactIsSeparated
end Go.Proofs.Ytnomgmmgonmhlaa
