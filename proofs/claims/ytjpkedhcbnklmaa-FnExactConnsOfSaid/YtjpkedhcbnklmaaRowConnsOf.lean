/-
  Proved here: the law FnExactConnsOf returns true for all arguments and leaves them as they were. No further condition.
-/
import Derived.Test.YtjpkedhcbnklmaaLawConnsOf
import Derived.Test.YtjpkedhcbnklmaaEConnsOf
import Derived.Test.YtjpkedhcbnklmaaIni
import Derived.Test.YtjpkedhcbnklmaaRows
namespace Go.Proofs.Ytjpkedhcbnklmaa
open Go Go.Pu Go.Proofs Go.ChangeShapes Go.WideShapes Go.ChangeAt Go.RowKit
set_option linter.unusedVariables false

namespace fnExactConnsOf
theorem own : ownKnob Try.prog.godebug = none := by kernel_rfl
theorem law (x : sg5.p.den) (h : InR sg5.p x) : ∃ y, fn5 x = some y ∧ V.c ⟨sg5.r, y⟩ = .bool true :=
  ⟨true, by rw [eq5]; exact Pf.law_FnExactConnsOf x h, rfl⟩
set_option maxRecDepth 100000 in
theorem lifted (os : Os) (started : os.Started) (H : Type) (enc : TypeId × Value → H) :
    ReturnsInHanded {} Try.checked os 5 .any (Rows.fnExactConnsOfSpec.pre6 enc Try.prog Try.f5 Rows.fnExactConnsOfRow.domain false) (Rows.fnExactConnsOfSpec.post enc Try.prog Try.f5 false true false false) := by
  refine returnsInHanded_of_change (C := Try.checked) own started (by kernel_rfl) Try.func5
    (ChangeSpec.witness6 (enc := enc) (C := Try.checked) false ⟨#[], #[.agg #[.int .i64 0, .slice none 0 0, .slice none 0 0, .slice none 0 0], .slice none 0 0], []⟩ 8 (by kernel_rfl) (by kernel_rfl) (by kernel_rfl) (by kernel_rfl)) ?_
  intro W base args ds gs before hval hW _ _
  have hsz : Try.f5.params.size = 2 := by kernel_rfl
  exact law_post (P := Try.prog) (fn := Try.f5) (sg := sg5) (F := fn5) (tb := 4) (by kernel_rfl) (by kernel_rfl) (by kernel_rfl) (by kernel_rfl) rfl rfl Try.underlying4 rfl
    (fun ds h => by rw [hsz] at h; match ds, h with | [_, _], _ => rfl) law spec5 W base args ds gs before hval hW
theorem facts : joinedFacts Try.prog 5 Try.f5 Rows.fnExactConnsOfSpec Rows.fnExactConnsOfRow = true := by
  unfold joinedFacts
  rw [Ini.enter, Ini.lifts, Ini.make]
  kernel_rfl
theorem over : Rows.fnExactConnsOfRow.holds Try.pinned (OpenSpec.ofChange Rows.fnExactConnsOfSpec) :=
  OpenClaim.holds_of_wide 5 Try.f5 rfl rfl rfl rfl rfl rfl rfl ⟨rfl, rfl, rfl, rfl, rfl⟩ rfl rfl rfl rfl rfl (by kernel_rfl) Try.func5 facts
    (of_decide_eq_true (by kernel_rfl)) (by unfold Func.isWrapper; first | (rw [if_pos (by decide +kernel)]; kernel_rfl) | (rw [if_neg (by decide +kernel)]; exact ⟨rfl, rfl⟩))
    (fun os started H enc _ => lifted os started H enc)
/-- The statement. -/
theorem proved : Rows.FnExactConnsOfSaid := over
end fnExactConnsOf
end Go.Proofs.Ytjpkedhcbnklmaa
