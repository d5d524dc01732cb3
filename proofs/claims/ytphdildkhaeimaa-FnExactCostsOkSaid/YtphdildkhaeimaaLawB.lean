/-
  Proved here: the law FnExactCostsOk returns true for all arguments and leaves them as they were. No further condition.
-/
import Derived.Test.YtphdildkhaeimaaLst
import Derived.Test.YtphdildkhaeimaaRows
namespace Go.Proofs.Ytphdildkhaeimaa
open Go Go.Ev Go.Proofs Go.ChangeShapes Go.WideShapes Go.ChangeAt Go.RowKit
set_option linter.unusedVariables false

set_option maxRecDepth 20000 in
set_option maxHeartbeats 1000000 in
theorem l_FnExactCostsOk (d : Dev) (xs : List Int) : CallSpec Try.prog 5 [.agg (encDev d), .one (.ro (ints xs))] (.t (.bool true)) := by
  refine spec1 (fun _ => []) Try.func5 (by kernel_rfl) rfl Try.ntmps5 rfl Try.results5 rfl ?_
  intro B0 w0 S0
  have e1 := ints_len xs
  by_cases hx : xs.length ≤ 1048576
  · repeat' (first
      | refine Ev.seq ?_
      | refine Ev.region ?_
      | refine Ev.skip ?_
      | refine EvO.nil ?_
      | (apply EvO.moveT; exact rfl; exact rfl; exact rfl)
      | (apply EvO.moveAl; exact rfl; exact rfl; exact rfl)
      | (apply EvO.moveAgg; exact rfl; exact rfl; exact rfl)
      | (apply EvO.assignOwn; exact rfl; exact rfl; exact rfl; exact rfl; exact rfl)
      | (apply EvO.assignT; exact rfl; exact rfl; exact rfl)
      | (apply EvO.assignAl; exact rfl; exact rfl; exact rfl)
      | (apply EvO.assignAgg; exact rfl; exact rfl; exact rfl)
      | (apply EvO.neq; exact rfl; exact rfl; exact rfl; exact rfl)
      | (apply EvO.neqBs; exact rfl; exact rfl; kernel_rfl; exact rfl; exact rfl)
      | (apply EvO.neqB; exact rfl; exact rfl; kernel_rfl; exact rfl; exact rfl)
      | (apply EvO.gtr; exact rfl; exact rfl; exact rfl; exact rfl)
      | (apply EvO.notP; exact rfl; exact rfl; exact rfl)
      | (apply EvO.not; exact rfl; exact rfl; exact rfl)
      | (apply EvO.loadI; exact rfl; exact rfl; omega; omega; kernel_rfl; exact rfl; exact rfl)
      | (apply EvO.loadOwn; exact rfl; exact rfl; exact rfl; exact rfl; exact rfl; kernel_rfl; exact rfl; exact rfl)
      | (apply EvO.loadBoxAgg; exact rfl; exact rfl; exact rfl; kernel_rfl; exact rfl; exact rfl; exact rfl)
      | (apply EvO.loadBox; exact rfl; exact rfl; exact rfl; exact rfl; kernel_rfl; exact rfl; exact rfl)
      | (apply EvO.loadRo; exact rfl; exact rfl; kernel_rfl; exact rfl; exact rfl)
      | (apply EvO.boxAgg; exact rfl; kernel_rfl; exact rfl; exact rfl; exact rfl)
      | (apply EvO.lenRo; exact rfl; kernel_rfl; exact rfl; exact rfl)
      | (apply EvO.lenOwn; exact rfl; exact rfl; kernel_rfl; exact rfl; exact rfl)
      | (apply EvO.lenNil; exact rfl; kernel_rfl; exact rfl; exact rfl)
      | (apply EvO.call; exact (l_toDevice _); exact rfl; exact rfl; exact rfl)
      | (apply EvO.call; exact (l_toIntSr _ hx); exact rfl; exact rfl; exact rfl)
      | (apply EvO.call; exact (s_CostsOk _ _); exact rfl; exact rfl; exact rfl)
      | (apply EvO.call; exact (i_CostsOk _ _); exact rfl; exact rfl; exact rfl)
      | (apply EvO.call; exact (l_eqIntS _ _); exact rfl; exact rfl; exact rfl)
      | (apply Ev.condT; exact rfl)
      | (apply Ev.condF; exact rfl)
      | (apply Ev.cond; exact rfl; all_goals (intro hh; first | replace hh := of_decide_eq_true hh | replace hh := of_decide_eq_false hh | skip))
      | (apply EvO.move; exact rfl; exact rfl)
      | (apply EvO.assign; exact rfl; exact rfl)
      | refine Ev.ret ?_)
    all_goals first | (exfalso; omega) | rfl | exact absurd rfl ‹¬ xs = xs›
  · repeat' (first
      | refine Ev.seq ?_
      | refine Ev.region ?_
      | refine Ev.skip ?_
      | refine EvO.nil ?_
      | (apply EvO.moveT; exact rfl; exact rfl; exact rfl)
      | (apply EvO.moveAl; exact rfl; exact rfl; exact rfl)
      | (apply EvO.moveAgg; exact rfl; exact rfl; exact rfl)
      | (apply EvO.assignOwn; exact rfl; exact rfl; exact rfl; exact rfl; exact rfl)
      | (apply EvO.assignT; exact rfl; exact rfl; exact rfl)
      | (apply EvO.assignAl; exact rfl; exact rfl; exact rfl)
      | (apply EvO.assignAgg; exact rfl; exact rfl; exact rfl)
      | (apply EvO.neq; exact rfl; exact rfl; exact rfl; exact rfl)
      | (apply EvO.neqBs; exact rfl; exact rfl; kernel_rfl; exact rfl; exact rfl)
      | (apply EvO.neqB; exact rfl; exact rfl; kernel_rfl; exact rfl; exact rfl)
      | (apply EvO.gtr; exact rfl; exact rfl; exact rfl; exact rfl)
      | (apply EvO.notP; exact rfl; exact rfl; exact rfl)
      | (apply EvO.not; exact rfl; exact rfl; exact rfl)
      | (apply EvO.loadI; exact rfl; exact rfl; omega; omega; kernel_rfl; exact rfl; exact rfl)
      | (apply EvO.loadOwn; exact rfl; exact rfl; exact rfl; exact rfl; exact rfl; kernel_rfl; exact rfl; exact rfl)
      | (apply EvO.loadBoxAgg; exact rfl; exact rfl; exact rfl; kernel_rfl; exact rfl; exact rfl; exact rfl)
      | (apply EvO.loadBox; exact rfl; exact rfl; exact rfl; exact rfl; kernel_rfl; exact rfl; exact rfl)
      | (apply EvO.loadRo; exact rfl; exact rfl; kernel_rfl; exact rfl; exact rfl)
      | (apply EvO.boxAgg; exact rfl; kernel_rfl; exact rfl; exact rfl; exact rfl)
      | (apply EvO.lenRo; exact rfl; kernel_rfl; exact rfl; exact rfl)
      | (apply EvO.lenOwn; exact rfl; exact rfl; kernel_rfl; exact rfl; exact rfl)
      | (apply EvO.lenNil; exact rfl; kernel_rfl; exact rfl; exact rfl)
      | (apply Ev.condT; exact rfl)
      | (apply Ev.condF; exact rfl)
      | (apply Ev.cond; exact rfl; all_goals (intro hh; first | replace hh := of_decide_eq_true hh | replace hh := of_decide_eq_false hh | skip))
      | (apply EvO.move; exact rfl; exact rfl)
      | (apply EvO.assign; exact rfl; exact rfl)
      | refine Ev.ret ?_)
    all_goals first | (exfalso; omega) | rfl
theorem lw_FnExactCostsOk (rs : List R) (h : HasAll Try.prog [25, 26] rs) : CallSpec Try.prog 5 rs (.t (.bool true)) := by
  obtain ⟨r0, rs, rfl, h0, h⟩ := h.cons
  obtain ⟨r1, rs, rfl, h1, h⟩ := h.cons
  obtain rfl := h.nil
  obtain ⟨a0, rfl, b0⟩ := dev_of h0 (by kernel_rfl)
  obtain ⟨a1, rfl, _⟩ := hasR_list h1 (el_26) (by kernel_rfl)
  exact l_FnExactCostsOk a0 a1
namespace fnExactCostsOk
theorem own : ownKnob Try.prog.godebug = none := by kernel_rfl
set_option maxRecDepth 100000 in
theorem lifted (os : Os) (started : os.Started) (H : Type) (enc : TypeId × Value → H) :
    ReturnsInHanded {} Try.checked os 5 .any (Rows.fnExactCostsOkSpec.pre6 enc Try.prog Try.f5 Rows.fnExactCostsOkRow.domain false) (Rows.fnExactCostsOkSpec.post enc Try.prog Try.f5 false true false false) := by
  refine returnsInHanded_of_change (C := Try.checked) own started (by kernel_rfl) Try.func5
    (ChangeSpec.witness6 (enc := enc) (C := Try.checked) false ⟨#[], #[.agg #[.int .i64 0, .int .i64 0, .int .i64 0, .int .i64 0], .slice none 0 0], []⟩ 8 (by kernel_rfl) (by kernel_rfl) (by kernel_rfl) (by kernel_rfl)) ?_
  intro W base args ds gs before hval hW _ _
  have hsz : Try.f5.params.size = 2 := by kernel_rfl
  exact law_post (P := Try.prog) (fn := Try.f5) (tb := 4) (by kernel_rfl) (by kernel_rfl) (by kernel_rfl) rfl Try.underlying4 rfl
    (fun ds h => by rw [hsz] at h; match ds, h with | [_, _], _ => rfl) (fun rs h => lw_FnExactCostsOk rs (by rw [Try.params5] at h; exact h)) W base args ds gs before hval hW
theorem over : Rows.fnExactCostsOkRow.holds Try.pinned (OpenSpec.ofChange Rows.fnExactCostsOkSpec) :=
  OpenClaim.holds_of_wide 5 Try.f5 rfl rfl rfl rfl rfl rfl rfl ⟨rfl, rfl, rfl, rfl, rfl⟩ rfl rfl rfl rfl rfl (by kernel_rfl) Try.func5 (by kernel_rfl)
    (of_decide_eq_true (by kernel_rfl)) (by unfold Func.isWrapper; first | (rw [if_pos (by decide +kernel)]; kernel_rfl) | (rw [if_neg (by decide +kernel)]; exact ⟨rfl, rfl⟩))
    (fun os started H enc _ => lifted os started H enc)
/-- The statement. -/
theorem proved : Rows.FnExactCostsOkSaid := over
end fnExactCostsOk
end Go.Proofs.Ytphdildkhaeimaa
