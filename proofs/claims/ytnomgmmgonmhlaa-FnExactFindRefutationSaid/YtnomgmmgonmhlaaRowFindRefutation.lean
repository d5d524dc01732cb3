/-
  Proved here: the law FnExactFindRefutation returns true for all arguments and leaves them as they were. No further condition.
-/
import Derived.Test.YtnomgmmgonmhlaaLawFindRefutation
import Derived.Test.YtnomgmmgonmhlaaEFindRefutation
import Derived.Test.YtnomgmmgonmhlaaIni
import Derived.Test.YtnomgmmgonmhlaaRows
namespace Go.Proofs.Ytnomgmmgonmhlaa
open Go Go.Pu Go.Proofs Go.ChangeShapes Go.WideShapes Go.ChangeAt Go.RowKit
set_option linter.unusedVariables false

namespace fnExactFindRefutation
theorem own : ownKnob Try.prog.godebug = none := by kernel_rfl
theorem law (x : sg13.p.den) (h : InR sg13.p x) : ∃ y, fn13 x = some y ∧ V.c ⟨sg13.r, y⟩ = .bool true :=
  ⟨true, by rw [eq13]; exact Pf.law_FnExactFindRefutation x h, rfl⟩
set_option maxRecDepth 100000 in
theorem lifted (os : Os) (started : os.Started) (H : Type) (enc : TypeId × Value → H) :
    ReturnsInHanded {} Try.checked os 13 .any (Rows.fnExactFindRefutationSpec.pre6 enc Try.prog Try.f13 Rows.fnExactFindRefutationRow.domain false) (Rows.fnExactFindRefutationSpec.post enc Try.prog Try.f13 false true false false) := by
  refine returnsInHanded_of_change (C := Try.checked) own started (by kernel_rfl) Try.func13
    (ChangeSpec.witness6 (enc := enc) (C := Try.checked) false ⟨#[], #[.agg #[.int .i64 0, .int .i64 0, .int .i64 0, .int .i64 0], .slice none 0 0, .slice none 0 0], []⟩ 8 (by kernel_rfl) (by kernel_rfl) (by kernel_rfl) (by kernel_rfl)) ?_
  intro W base args ds gs before hval hW _ _
  have hsz : Try.f13.params.size = 3 := by kernel_rfl
  exact law_post (P := Try.prog) (fn := Try.f13) (sg := sg13) (F := fn13) (tb := 4) (by kernel_rfl) (by kernel_rfl) (by kernel_rfl) (by kernel_rfl) rfl rfl Try.underlying4 rfl
    (fun ds h => by rw [hsz] at h; match ds, h with | [_, _, _], _ => rfl) law spec13 W base args ds gs before hval hW
theorem facts : joinedFacts Try.prog 13 Try.f13 Rows.fnExactFindRefutationSpec Rows.fnExactFindRefutationRow = true := by
  unfold joinedFacts
  rw [Ini.enter, Ini.lifts, Ini.make]
  kernel_rfl
theorem over : Rows.fnExactFindRefutationRow.holds Try.pinned (OpenSpec.ofChange Rows.fnExactFindRefutationSpec) :=
  OpenClaim.holds_of_wide 13 Try.f13 rfl rfl rfl rfl rfl rfl rfl ⟨rfl, rfl, rfl, rfl, rfl⟩ rfl rfl rfl rfl rfl (by kernel_rfl) Try.func13 facts
    (of_decide_eq_true (by kernel_rfl)) (by unfold Func.isWrapper; first | (rw [if_pos (by decide +kernel)]; kernel_rfl) | (rw [if_neg (by decide +kernel)]; exact ⟨rfl, rfl⟩))
    (fun os started H enc _ => lifted os started H enc)
/-- The statement. -/
theorem proved : Rows.FnExactFindRefutationSaid := over
end fnExactFindRefutation
end Go.Proofs.Ytnomgmmgonmhlaa
