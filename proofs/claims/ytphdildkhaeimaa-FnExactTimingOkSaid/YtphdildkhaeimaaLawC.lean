/-
  Proved here: the law FnExactTimingOk returns true for all arguments and leaves them as they were. No further condition.
-/
import Derived.Test.YtphdildkhaeimaaTim
import Derived.Test.YtphdildkhaeimaaRows
namespace Go.Proofs.Ytphdildkhaeimaa
open Go Go.Ev Go.Proofs Go.ChangeShapes Go.WideShapes Go.ChangeAt Go.RowKit
set_option linter.unusedVariables false

set_option maxRecDepth 20000 in
set_option maxHeartbeats 1000000 in
theorem l_FnExactTimingOk (g : TG) : CallSpec Try.prog 8 [.agg (encTG g)] (.t (.bool true)) := by
  refine spec1 pm8 Try.func8 (by kernel_rfl) rfl Try.ntmps8 rfl Try.results8 rfl ?_
  intro B0 w0 S0
  have hs : szl g.arcs.length 1048576 = if (g.arcs.length : Int) ≤ 1048576 then 1048576 - (g.arcs.length : Int) else -1 := by unfold szl; rfl
  by_cases hx : g.arcs.length ≤ 1048576
  · rw [if_pos (by omega)] at hs
    repeat' (first
      | refine Ev.seq ?_
      | refine Ev.region ?_
      | (apply Ev.draws; exact follows; kernel_rfl)
      | refine Ev.skip ?_
      | refine EvO.nil ?_
      | (apply EvO.moveT; exact rfl; exact rfl; exact rfl)
      | (apply EvO.moveAl; exact rfl; exact rfl; exact rfl)
      | (apply EvO.moveAgg; exact rfl; exact rfl; exact rfl)
      | (apply EvO.assignOwn; exact rfl; exact rfl; exact rfl; exact rfl; exact rfl)
      | (apply EvO.assignT; exact rfl; exact rfl; exact rfl)
      | (apply EvO.assignAl; exact rfl; exact rfl; exact rfl)
      | (apply EvO.assignAgg; exact rfl; exact rfl; exact rfl)
      | (apply EvO.neq; exact rfl; exact rfl; exact rfl; exact rfl)
      | (apply EvO.neqBs; exact rfl; exact rfl; kernel_rfl; exact rfl; exact rfl)
      | (apply EvO.neqB; exact rfl; exact rfl; kernel_rfl; exact rfl; exact rfl)
      | (apply EvO.lss; exact rfl; exact rfl; exact rfl; exact rfl)
      | (apply EvO.notP; exact rfl; exact rfl; exact rfl)
      | (apply EvO.not; exact rfl; exact rfl; exact rfl)
      | (apply EvO.loadBoxAgg (t := 39); exact rfl; exact rfl; exact rfl; kernel_rfl; exact rfl; exact rfl; exact rfl)
      | (apply EvO.loadBoxAgg (t := 44); exact rfl; exact rfl; exact rfl; kernel_rfl; exact rfl; exact rfl; exact rfl)
      | (apply EvO.loadRoAll (t := 39); exact rfl; kernel_rfl; exact rfl; exact rfl; exact rfl)
      | (apply EvO.loadRoAll (t := 44); exact rfl; kernel_rfl; exact rfl; exact rfl; exact rfl)
      | (apply EvO.boxAgg; exact rfl; kernel_rfl; exact rfl; exact rfl; exact rfl)
      | (apply EvO.storeBoxAgg (t := 44); exact rfl; exact rfl; exact rfl; exact rfl; kernel_rfl; exact rfl; exact rfl; kernel_rfl)
      | (apply EvO.alloc; ((with_reducible first | exact zr_44)); kernel_rfl; exact rfl; exact rfl; exact rfl)
      | (apply EvO.call; exact (l_szTimingGraph _ _ (by omega)); exact rfl; exact rfl; exact rfl)
      | (apply EvO.call; exact (l_toTimingGraph _ hx); exact rfl; exact rfl; exact rfl)
      | (apply EvO.call; exact (s_TimingOk _); exact rfl; exact rfl; exact rfl)
      | (apply EvO.call; exact (i_TimingOk _); exact rfl; exact rfl; exact rfl)
      | (apply EvO.call; exact (l_eqTimingGraph _ _); exact rfl; exact rfl; exact rfl)
      | (apply Ev.condT; exact rfl)
      | (apply Ev.condF; exact rfl)
      | (apply Ev.cond; exact rfl; all_goals (intro hh; first | replace hh := of_decide_eq_true hh | replace hh := of_decide_eq_false hh | skip))
      | (apply EvO.move; exact rfl; exact rfl)
      | (apply EvO.assign; exact rfl; exact rfl)
      | refine Ev.ret ?_)
    all_goals first | (exfalso; omega) | rfl | exact absurd rfl ‹¬ g = g›
  · rw [if_neg (by omega)] at hs
    repeat' (first
      | refine Ev.seq ?_
      | refine Ev.region ?_
      | (apply Ev.draws; exact follows; kernel_rfl)
      | refine Ev.skip ?_
      | refine EvO.nil ?_
      | (apply EvO.moveT; exact rfl; exact rfl; exact rfl)
      | (apply EvO.moveAl; exact rfl; exact rfl; exact rfl)
      | (apply EvO.moveAgg; exact rfl; exact rfl; exact rfl)
      | (apply EvO.assignOwn; exact rfl; exact rfl; exact rfl; exact rfl; exact rfl)
      | (apply EvO.assignT; exact rfl; exact rfl; exact rfl)
      | (apply EvO.assignAl; exact rfl; exact rfl; exact rfl)
      | (apply EvO.assignAgg; exact rfl; exact rfl; exact rfl)
      | (apply EvO.neq; exact rfl; exact rfl; exact rfl; exact rfl)
      | (apply EvO.neqBs; exact rfl; exact rfl; kernel_rfl; exact rfl; exact rfl)
      | (apply EvO.neqB; exact rfl; exact rfl; kernel_rfl; exact rfl; exact rfl)
      | (apply EvO.lss; exact rfl; exact rfl; exact rfl; exact rfl)
      | (apply EvO.notP; exact rfl; exact rfl; exact rfl)
      | (apply EvO.not; exact rfl; exact rfl; exact rfl)
      | (apply EvO.loadBoxAgg (t := 39); exact rfl; exact rfl; exact rfl; kernel_rfl; exact rfl; exact rfl; exact rfl)
      | (apply EvO.loadBoxAgg (t := 44); exact rfl; exact rfl; exact rfl; kernel_rfl; exact rfl; exact rfl; exact rfl)
      | (apply EvO.loadRoAll (t := 39); exact rfl; kernel_rfl; exact rfl; exact rfl; exact rfl)
      | (apply EvO.loadRoAll (t := 44); exact rfl; kernel_rfl; exact rfl; exact rfl; exact rfl)
      | (apply EvO.boxAgg; exact rfl; kernel_rfl; exact rfl; exact rfl; exact rfl)
      | (apply EvO.storeBoxAgg (t := 44); exact rfl; exact rfl; exact rfl; exact rfl; kernel_rfl; exact rfl; exact rfl; kernel_rfl)
      | (apply EvO.alloc; ((with_reducible first | exact zr_44)); kernel_rfl; exact rfl; exact rfl; exact rfl)
      | (apply EvO.call; exact (l_szTimingGraph _ _ (by omega)); exact rfl; exact rfl; exact rfl)
      | (apply Ev.condT; exact rfl)
      | (apply Ev.condF; exact rfl)
      | (apply Ev.cond; exact rfl; all_goals (intro hh; first | replace hh := of_decide_eq_true hh | replace hh := of_decide_eq_false hh | skip))
      | (apply EvO.move; exact rfl; exact rfl)
      | (apply EvO.assign; exact rfl; exact rfl)
      | refine Ev.ret ?_)
    all_goals first | (exfalso; omega) | rfl
theorem lw_FnExactTimingOk (rs : List R) (h : HasAll Try.prog [39] rs) : CallSpec Try.prog 8 rs (.t (.bool true)) := by
  obtain ⟨r0, rs, rfl, h0, h⟩ := h.cons
  obtain rfl := h.nil
  obtain ⟨a0, rfl⟩ := tg_of (ts := 37) h0 (by kernel_rfl) (el_37) (by kernel_rfl)
  exact l_FnExactTimingOk a0
namespace fnExactTimingOk
theorem own : ownKnob Try.prog.godebug = none := by kernel_rfl
set_option maxRecDepth 100000 in
theorem lifted (os : Os) (started : os.Started) (H : Type) (enc : TypeId × Value → H) :
    ReturnsInHanded {} Try.checked os 8 .any (Rows.fnExactTimingOkSpec.pre6 enc Try.prog Try.f8 Rows.fnExactTimingOkRow.domain false) (Rows.fnExactTimingOkSpec.post enc Try.prog Try.f8 false true false false) := by
  refine returnsInHanded_of_change (C := Try.checked) own started (by kernel_rfl) Try.func8
    (ChangeSpec.witness6 (enc := enc) (C := Try.checked) false ⟨#[], #[.agg #[.int .i64 0, .slice none 0 0]], []⟩ 8 (by kernel_rfl) (by kernel_rfl) (by kernel_rfl) (by kernel_rfl)) ?_
  intro W base args ds gs before hval hW _ _
  have hsz : Try.f8.params.size = 1 := by kernel_rfl
  exact law_post (P := Try.prog) (fn := Try.f8) (tb := 4) (by kernel_rfl) (by kernel_rfl) (by kernel_rfl) rfl Try.underlying4 rfl
    (fun ds h => by rw [hsz] at h; match ds, h with | [_], _ => rfl) (fun rs h => lw_FnExactTimingOk rs (by rw [Try.params8] at h; exact h)) W base args ds gs before hval hW
theorem over : Rows.fnExactTimingOkRow.holds Try.pinned (OpenSpec.ofChange Rows.fnExactTimingOkSpec) :=
  OpenClaim.holds_of_wide 8 Try.f8 rfl rfl rfl rfl rfl rfl rfl ⟨rfl, rfl, rfl, rfl, rfl⟩ rfl rfl rfl rfl rfl (by kernel_rfl) Try.func8 (by kernel_rfl)
    (of_decide_eq_true (by kernel_rfl)) (by unfold Func.isWrapper; first | (rw [if_pos (by decide +kernel)]; kernel_rfl) | (rw [if_neg (by decide +kernel)]; exact ⟨rfl, rfl⟩))
    (fun os started H enc _ => lifted os started H enc)
/-- The statement. -/
theorem proved : Rows.FnExactTimingOkSaid := over
end fnExactTimingOk
end Go.Proofs.Ytphdildkhaeimaa
