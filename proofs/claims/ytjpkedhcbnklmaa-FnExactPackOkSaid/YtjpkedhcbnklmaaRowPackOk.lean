/-
  Proved here: the law FnExactPackOk returns true for all arguments and leaves them as they were. No further condition.
-/
import Derived.Test.YtjpkedhcbnklmaaLawPackOk
import Derived.Test.YtjpkedhcbnklmaaEPackOk
import Derived.Test.YtjpkedhcbnklmaaIni
import Derived.Test.YtjpkedhcbnklmaaRows
namespace Go.Proofs.Ytjpkedhcbnklmaa
open Go Go.Pu Go.Proofs Go.ChangeShapes Go.WideShapes Go.ChangeAt Go.RowKit
set_option linter.unusedVariables false

namespace fnExactPackOk
theorem own : ownKnob Try.prog.godebug = none := by kernel_rfl
theorem law (x : sg3.p.den) (h : InR sg3.p x) : ∃ y, fn3 x = some y ∧ V.c ⟨sg3.r, y⟩ = .bool true :=
  ⟨true, by rw [eq3]; exact Pf.law_FnExactPackOk x h, rfl⟩
set_option maxRecDepth 100000 in
theorem lifted (os : Os) (started : os.Started) (H : Type) (enc : TypeId × Value → H) :
    ReturnsInHanded {} Try.checked os 3 .any (Rows.fnExactPackOkSpec.pre6 enc Try.prog Try.f3 Rows.fnExactPackOkRow.domain false) (Rows.fnExactPackOkSpec.post enc Try.prog Try.f3 false true false false) := by
  refine returnsInHanded_of_change (C := Try.checked) own started (by kernel_rfl) Try.func3
    (ChangeSpec.witness6 (enc := enc) (C := Try.checked) false ⟨#[], #[.agg #[.int .i64 0, .slice none 0 0, .slice none 0 0, .slice none 0 0], .slice none 0 0], []⟩ 8 (by kernel_rfl) (by kernel_rfl) (by kernel_rfl) (by kernel_rfl)) ?_
  intro W base args ds gs before hval hW _ _
  have hsz : Try.f3.params.size = 2 := by kernel_rfl
  exact law_post (P := Try.prog) (fn := Try.f3) (sg := sg3) (F := fn3) (tb := 4) (by kernel_rfl) (by kernel_rfl) (by kernel_rfl) (by kernel_rfl) rfl rfl Try.underlying4 rfl
    (fun ds h => by rw [hsz] at h; match ds, h with | [_, _], _ => rfl) law spec3 W base args ds gs before hval hW
theorem facts : joinedFacts Try.prog 3 Try.f3 Rows.fnExactPackOkSpec Rows.fnExactPackOkRow = true := by
  unfold joinedFacts
  rw [Ini.enter, Ini.lifts, Ini.make]
  kernel_rfl
theorem over : Rows.fnExactPackOkRow.holds Try.pinned (OpenSpec.ofChange Rows.fnExactPackOkSpec) :=
  OpenClaim.holds_of_wide 3 Try.f3 rfl rfl rfl rfl rfl rfl rfl ⟨rfl, rfl, rfl, rfl, rfl⟩ rfl rfl rfl rfl rfl (by kernel_rfl) Try.func3 facts
    (of_decide_eq_true (by kernel_rfl)) (by unfold Func.isWrapper; first | (rw [if_pos (by decide +kernel)]; kernel_rfl) | (rw [if_neg (by decide +kernel)]; exact ⟨rfl, rfl⟩))
    (fun os started H enc _ => lifted os started H enc)
/-- The statement. -/
theorem proved : Rows.FnExactPackOkSaid := over
end fnExactPackOk
end Go.Proofs.Ytjpkedhcbnklmaa
