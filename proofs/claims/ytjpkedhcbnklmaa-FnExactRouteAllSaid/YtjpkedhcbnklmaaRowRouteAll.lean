/-
  Proved here: the law FnExactRouteAll returns true for all arguments and leaves them as they were. No further condition.
-/
import Derived.Test.YtjpkedhcbnklmaaLawRouteAll
import Derived.Test.YtjpkedhcbnklmaaERouteAll
import Derived.Test.YtjpkedhcbnklmaaIni
import Derived.Test.YtjpkedhcbnklmaaRows
namespace Go.Proofs.Ytjpkedhcbnklmaa
open Go Go.Pu Go.Proofs Go.ChangeShapes Go.WideShapes Go.ChangeAt Go.RowKit
set_option linter.unusedVariables false

namespace fnExactRouteAll
theorem own : ownKnob Try.prog.godebug = none := by kernel_rfl
theorem law (x : sg6.p.den) (h : InR sg6.p x) : ∃ y, fn6 x = some y ∧ V.c ⟨sg6.r, y⟩ = .bool true :=
  ⟨true, by rw [eq6]; exact Pf.law_FnExactRouteAll x h, rfl⟩
set_option maxRecDepth 100000 in
theorem lifted (os : Os) (started : os.Started) (H : Type) (enc : TypeId × Value → H) :
    ReturnsInHanded {} Try.checked os 6 .any (Rows.fnExactRouteAllSpec.pre6 enc Try.prog Try.f6 Rows.fnExactRouteAllRow.domain false) (Rows.fnExactRouteAllSpec.post enc Try.prog Try.f6 false true false false) := by
  refine returnsInHanded_of_change (C := Try.checked) own started (by kernel_rfl) Try.func6
    (ChangeSpec.witness6 (enc := enc) (C := Try.checked) false ⟨#[], #[.agg #[.int .i64 0, .int .i64 0, .int .i64 0, .int .i64 0], .slice none 0 0, .slice none 0 0], []⟩ 8 (by kernel_rfl) (by kernel_rfl) (by kernel_rfl) (by kernel_rfl)) ?_
  intro W base args ds gs before hval hW _ _
  have hsz : Try.f6.params.size = 3 := by kernel_rfl
  exact law_post (P := Try.prog) (fn := Try.f6) (sg := sg6) (F := fn6) (tb := 4) (by kernel_rfl) (by kernel_rfl) (by kernel_rfl) (by kernel_rfl) rfl rfl Try.underlying4 rfl
    (fun ds h => by rw [hsz] at h; match ds, h with | [_, _, _], _ => rfl) law spec6 W base args ds gs before hval hW
theorem facts : joinedFacts Try.prog 6 Try.f6 Rows.fnExactRouteAllSpec Rows.fnExactRouteAllRow = true := by
  unfold joinedFacts
  rw [Ini.enter, Ini.lifts, Ini.make]
  kernel_rfl
theorem over : Rows.fnExactRouteAllRow.holds Try.pinned (OpenSpec.ofChange Rows.fnExactRouteAllSpec) :=
  OpenClaim.holds_of_wide 6 Try.f6 rfl rfl rfl rfl rfl rfl rfl ⟨rfl, rfl, rfl, rfl, rfl⟩ rfl rfl rfl rfl rfl (by kernel_rfl) Try.func6 facts
    (of_decide_eq_true (by kernel_rfl)) (by unfold Func.isWrapper; first | (rw [if_pos (by decide +kernel)]; kernel_rfl) | (rw [if_neg (by decide +kernel)]; exact ⟨rfl, rfl⟩))
    (fun os started H enc _ => lifted os started H enc)
/-- The statement. -/
theorem proved : Rows.FnExactRouteAllSaid := over
end fnExactRouteAll
end Go.Proofs.Ytjpkedhcbnklmaa
