/-
  Proved here: the law FnLongest returns true for all arguments and leaves them as they were. No further condition.
-/
import Derived.Test.YtnlcnnmdalgibaaLawFnLongest
import Derived.Test.YtnlcnnmdalgibaaEFnLongest
import Derived.Test.YtnlcnnmdalgibaaIni
import Derived.Test.YtnlcnnmdalgibaaRows
namespace Go.Proofs.Ytnlcnnmdalgibaa
open Go Go.Pu Go.Proofs Go.ChangeShapes Go.WideShapes Go.ChangeAt Go.RowKit
set_option linter.unusedVariables false

namespace fnLongest
theorem own : ownKnob Try.prog.godebug = none := by kernel_rfl
theorem law (x : sg4.p.den) (h : InR sg4.p x) : ∃ y, fn4 x = some y ∧ V.c ⟨sg4.r, y⟩ = .bool true :=
  ⟨true, by rw [eq4]; exact Pf.law_FnLongest x h, rfl⟩
set_option maxRecDepth 100000 in
theorem lifted (os : Os) (started : os.Started) (H : Type) (enc : TypeId × Value → H) :
    ReturnsInHanded {} Try.checked os 4 .any (Rows.fnLongestSpec.pre6 enc Try.prog Try.f4 Rows.fnLongestRow.domain false) (Rows.fnLongestSpec.post enc Try.prog Try.f4 false true false false) := by
  refine returnsInHanded_of_change (C := Try.checked) own started (by kernel_rfl) Try.func4
    (ChangeSpec.witness6 (enc := enc) (C := Try.checked) false ⟨#[], #[.slice none 0 0], []⟩ 8 (by kernel_rfl) (by kernel_rfl) (by kernel_rfl) (by kernel_rfl)) ?_
  intro W base args ds gs before hval hW _ _
  have hsz : Try.f4.params.size = 1 := by kernel_rfl
  exact law_post (P := Try.prog) (fn := Try.f4) (sg := sg4) (F := fn4) (tb := 4) (by kernel_rfl) (by kernel_rfl) (by kernel_rfl) (by kernel_rfl) rfl rfl Try.underlying4 rfl
    (fun ds h => by rw [hsz] at h; match ds, h with | [_], _ => rfl) law spec4 W base args ds gs before hval hW
theorem facts : joinedFacts Try.prog 4 Try.f4 Rows.fnLongestSpec Rows.fnLongestRow = true := by
  unfold joinedFacts
  rw [Ini.enter, Ini.lifts, Ini.make]
  kernel_rfl
theorem over : Rows.fnLongestRow.holds Try.pinned (OpenSpec.ofChange Rows.fnLongestSpec) :=
  OpenClaim.holds_of_wide 4 Try.f4 rfl rfl rfl rfl rfl rfl rfl ⟨rfl, rfl, rfl, rfl, rfl⟩ rfl rfl rfl rfl rfl (by kernel_rfl) Try.func4 facts
    (of_decide_eq_true (by kernel_rfl)) (by unfold Func.isWrapper; first | (rw [if_pos (by decide +kernel)]; kernel_rfl) | (rw [if_neg (by decide +kernel)]; exact ⟨rfl, rfl⟩))
    (fun os started H enc _ => lifted os started H enc)
/-- The statement. -/
theorem proved : Rows.FnLongestSaid := over
end fnLongest
end Go.Proofs.Ytnlcnnmdalgibaa
