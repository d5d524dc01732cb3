/-
  Proved here: the law FnNearest returns true for all arguments and leaves them as they were. No further condition.
-/
import Derived.Test.YtnlcnnmdalgibaaLawFnNearest
import Derived.Test.YtnlcnnmdalgibaaEFnNearest
import Derived.Test.YtnlcnnmdalgibaaIni
import Derived.Test.YtnlcnnmdalgibaaRows
namespace Go.Proofs.Ytnlcnnmdalgibaa
open Go Go.Pu Go.Proofs Go.ChangeShapes Go.WideShapes Go.ChangeAt Go.RowKit
set_option linter.unusedVariables false

namespace fnNearest
theorem own : ownKnob Try.prog.godebug = none := by kernel_rfl
theorem law (x : sg3.p.den) (h : InR sg3.p x) : ∃ y, fn3 x = some y ∧ V.c ⟨sg3.r, y⟩ = .bool true :=
  ⟨true, by rw [eq3]; exact Pf.law_FnNearest x h, rfl⟩
set_option maxRecDepth 100000 in
theorem lifted (os : Os) (started : os.Started) (H : Type) (enc : TypeId × Value → H) :
    ReturnsInHanded {} Try.checked os 3 .any (Rows.fnNearestSpec.pre6 enc Try.prog Try.f3 Rows.fnNearestRow.domain false) (Rows.fnNearestSpec.post enc Try.prog Try.f3 false true false false) := by
  refine returnsInHanded_of_change (C := Try.checked) own started (by kernel_rfl) Try.func3
    (ChangeSpec.witness6 (enc := enc) (C := Try.checked) false ⟨#[], #[.slice none 0 0], []⟩ 8 (by kernel_rfl) (by kernel_rfl) (by kernel_rfl) (by kernel_rfl)) ?_
  intro W base args ds gs before hval hW _ _
  have hsz : Try.f3.params.size = 1 := by kernel_rfl
  exact law_post (P := Try.prog) (fn := Try.f3) (sg := sg3) (F := fn3) (tb := 4) (by kernel_rfl) (by kernel_rfl) (by kernel_rfl) (by kernel_rfl) rfl rfl Try.underlying4 rfl
    (fun ds h => by rw [hsz] at h; match ds, h with | [_], _ => rfl) law spec3 W base args ds gs before hval hW
theorem facts : joinedFacts Try.prog 3 Try.f3 Rows.fnNearestSpec Rows.fnNearestRow = true := by
  unfold joinedFacts
  rw [Ini.enter, Ini.lifts, Ini.make]
  kernel_rfl
theorem over : Rows.fnNearestRow.holds Try.pinned (OpenSpec.ofChange Rows.fnNearestSpec) :=
  OpenClaim.holds_of_wide 3 Try.f3 rfl rfl rfl rfl rfl rfl rfl ⟨rfl, rfl, rfl, rfl, rfl⟩ rfl rfl rfl rfl rfl (by kernel_rfl) Try.func3 facts
    (of_decide_eq_true (by kernel_rfl)) (by unfold Func.isWrapper; first | (rw [if_pos (by decide +kernel)]; kernel_rfl) | (rw [if_neg (by decide +kernel)]; exact ⟨rfl, rfl⟩))
    (fun os started H enc _ => lifted os started H enc)
/-- The statement. -/
theorem proved : Rows.FnNearestSaid := over
end fnNearest
end Go.Proofs.Ytnlcnnmdalgibaa
