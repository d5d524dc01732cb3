/-
  Proved here: the law FnExactSetupSlacks returns true for all arguments and leaves them as they were. No further condition.
-/
import Derived.Test.YtnomgmmgonmhlaaLawSetupSlacks
import Derived.Test.YtnomgmmgonmhlaaESetupSlacks
import Derived.Test.YtnomgmmgonmhlaaIni
import Derived.Test.YtnomgmmgonmhlaaRows
namespace Go.Proofs.Ytnomgmmgonmhlaa
open Go Go.Pu Go.Proofs Go.ChangeShapes Go.WideShapes Go.ChangeAt Go.RowKit
set_option linter.unusedVariables false

namespace fnExactSetupSlacks
theorem own : ownKnob Try.prog.godebug = none := by kernel_rfl
theorem law (x : sg14.p.den) (h : InR sg14.p x) : ∃ y, fn14 x = some y ∧ V.c ⟨sg14.r, y⟩ = .bool true :=
  ⟨true, by rw [eq14]; exact Pf.law_FnExactSetupSlacks x h, rfl⟩
set_option maxRecDepth 100000 in
theorem lifted (os : Os) (started : os.Started) (H : Type) (enc : TypeId × Value → H) :
    ReturnsInHanded {} Try.checked os 14 .any (Rows.fnExactSetupSlacksSpec.pre6 enc Try.prog Try.f14 Rows.fnExactSetupSlacksRow.domain false) (Rows.fnExactSetupSlacksSpec.post enc Try.prog Try.f14 false true false false) := by
  refine returnsInHanded_of_change (C := Try.checked) own started (by kernel_rfl) Try.func14
    (ChangeSpec.witness6 (enc := enc) (C := Try.checked) false ⟨#[], #[.agg #[.int .i64 0, .slice none 0 0], .slice none 0 0, .slice none 0 0, .slice none 0 0, .int .i64 0], []⟩ 8 (by kernel_rfl) (by kernel_rfl) (by kernel_rfl) (by kernel_rfl)) ?_
  intro W base args ds gs before hval hW _ _
  have hsz : Try.f14.params.size = 5 := by kernel_rfl
  exact law_post (P := Try.prog) (fn := Try.f14) (sg := sg14) (F := fn14) (tb := 4) (by kernel_rfl) (by kernel_rfl) (by kernel_rfl) (by kernel_rfl) rfl rfl Try.underlying4 rfl
    (fun ds h => by rw [hsz] at h; match ds, h with | [_, _, _, _, _], _ => rfl) law spec14 W base args ds gs before hval hW
theorem facts : joinedFacts Try.prog 14 Try.f14 Rows.fnExactSetupSlacksSpec Rows.fnExactSetupSlacksRow = true := by
  unfold joinedFacts
  rw [Ini.enter, Ini.lifts, Ini.make]
  kernel_rfl
theorem over : Rows.fnExactSetupSlacksRow.holds Try.pinned (OpenSpec.ofChange Rows.fnExactSetupSlacksSpec) :=
  OpenClaim.holds_of_wide 14 Try.f14 rfl rfl rfl rfl rfl rfl rfl ⟨rfl, rfl, rfl, rfl, rfl⟩ rfl rfl rfl rfl rfl (by kernel_rfl) Try.func14 facts
    (of_decide_eq_true (by kernel_rfl)) (by unfold Func.isWrapper; first | (rw [if_pos (by decide +kernel)]; kernel_rfl) | (rw [if_neg (by decide +kernel)]; exact ⟨rfl, rfl⟩))
    (fun os started H enc _ => lifted os started H enc)
/-- The statement. -/
theorem proved : Rows.FnExactSetupSlacksSaid := over
end fnExactSetupSlacks
end Go.Proofs.Ytnomgmmgonmhlaa
