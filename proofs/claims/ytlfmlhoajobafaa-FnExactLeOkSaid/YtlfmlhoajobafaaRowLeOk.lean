/-
  Proved here: the law FnExactLeOk returns true for all arguments and leaves them as they were. No further condition.
-/
import Derived.Test.YtlfmlhoajobafaaLawLeOk
import Derived.Test.YtlfmlhoajobafaaELeOk
import Derived.Test.YtlfmlhoajobafaaIni
import Derived.Test.YtlfmlhoajobafaaRows
namespace Go.Proofs.Ytlfmlhoajobafaa
open Go Go.Pu Go.Proofs Go.ChangeShapes Go.WideShapes Go.ChangeAt Go.RowKit
set_option linter.unusedVariables false

namespace fnExactLeOk
theorem own : ownKnob Try.prog.godebug = none := by kernel_rfl
theorem law (x : sg7.p.den) (h : InR sg7.p x) : ∃ y, fn7 x = some y ∧ V.c ⟨sg7.r, y⟩ = .bool true :=
  ⟨true, by rw [eq7]; exact Pf.law_FnExactLeOk x h, rfl⟩
set_option maxRecDepth 100000 in
theorem lifted (os : Os) (started : os.Started) (H : Type) (enc : TypeId × Value → H) :
    ReturnsInHanded {} Try.checked os 7 .any (Rows.fnExactLeOkSpec.pre6 enc Try.prog Try.f7 Rows.fnExactLeOkRow.domain false) (Rows.fnExactLeOkSpec.post enc Try.prog Try.f7 false true false false) := by
  refine returnsInHanded_of_change (C := Try.checked) own started (by kernel_rfl) Try.func7
    (ChangeSpec.witness6 (enc := enc) (C := Try.checked) false ⟨#[], #[.agg #[.int .i64 0, .slice none 0 0, .slice none 0 0, .slice none 0 0], .agg #[.int .i64 0, .int .i64 0]], []⟩ 8 (by kernel_rfl) (by kernel_rfl) (by kernel_rfl) (by kernel_rfl)) ?_
  intro W base args ds gs before hval hW _ _
  have hsz : Try.f7.params.size = 2 := by kernel_rfl
  exact law_post (P := Try.prog) (fn := Try.f7) (sg := sg7) (F := fn7) (tb := 4) (by kernel_rfl) (by kernel_rfl) (by kernel_rfl) (by kernel_rfl) rfl rfl Try.underlying4 rfl
    (fun ds h => by rw [hsz] at h; match ds, h with | [_, _], _ => rfl) law spec7 W base args ds gs before hval hW
theorem facts : joinedFacts Try.prog 7 Try.f7 Rows.fnExactLeOkSpec Rows.fnExactLeOkRow = true := by
  unfold joinedFacts
  rw [Ini.enter, Ini.lifts, Ini.make]
  kernel_rfl
theorem over : Rows.fnExactLeOkRow.holds Try.pinned (OpenSpec.ofChange Rows.fnExactLeOkSpec) :=
  OpenClaim.holds_of_wide 7 Try.f7 rfl rfl rfl rfl rfl rfl rfl ⟨rfl, rfl, rfl, rfl, rfl⟩ rfl rfl rfl rfl rfl (by kernel_rfl) Try.func7 facts
    (of_decide_eq_true (by kernel_rfl)) (by unfold Func.isWrapper; first | (rw [if_pos (by decide +kernel)]; kernel_rfl) | (rw [if_neg (by decide +kernel)]; exact ⟨rfl, rfl⟩))
    (fun os started H enc _ => lifted os started H enc)
/-- The statement. -/
theorem proved : Rows.FnExactLeOkSaid := over
end fnExactLeOk
end Go.Proofs.Ytlfmlhoajobafaa
