/-
  Own work. Contracts of the functions on lists of ints.
-/
import Derived.Test.YtphdildkhaeimaaDev
import Derived.Test.YtphdildkhaeimaaEvK
import Derived.Test.YtphdildkhaeimaaEvJ
namespace Go.Proofs.Ytphdildkhaeimaa
open Go Go.Ev Go.Proofs
set_option linter.unusedVariables false

theorem dev_of {t : TypeId} {r : R} (h : HasR Try.prog t r) (ht : intsT Try.prog t 4 = true) : ∃ d : Dev, r = .agg (encDev d) ∧ i64 d.W ∧ i64 d.H ∧ i64 d.T ∧ i64 d.R := by
  obtain ⟨zs, rfl, hl, hb⟩ := h.ints ht
  match zs, hl with
  | [a, b, c, e], _ => exact ⟨⟨a, b, c, e⟩, rfl, hb a (by simp), hb b (by simp), hb c (by simp), hb e (by simp)⟩

set_option maxRecDepth 20000 in
set_option maxHeartbeats 1000000 in
theorem l_toDevice (d : Dev) : CallSpec Try.prog 14 [.agg (encDev d)] (.agg (encDev d)) := by
  refine spec1box (fun _ => []) Try.func14 (by kernel_rfl) rfl Try.ntmps14 rfl Try.results14 (by kernel_rfl) rfl ?_
  intro B0 w0 S0
  repeat' (first
    | refine Ev.seq ?_
    | refine Ev.region ?_
    | refine Ev.skip ?_
    | refine EvO.nil ?_
    | (apply EvO.loadI (t := 3); exact rfl; exact rfl; omega; omega; kernel_rfl; exact rfl; exact rfl)
    | (apply EvO.loadOwn (t := 3); exact rfl; exact rfl; exact rfl; exact rfl; exact rfl; kernel_rfl; exact rfl; exact rfl)
    | (apply EvO.loadBoxAgg (t := 28); exact rfl; exact rfl; exact rfl; kernel_rfl; exact rfl; exact rfl; exact rfl)
    | (apply EvO.loadBox (t := 3); exact rfl; exact rfl; exact rfl; exact rfl; kernel_rfl; exact rfl; exact rfl)
    | (apply EvO.loadRo (t := 3); exact rfl; exact rfl; kernel_rfl; exact rfl; exact rfl)
    | (apply EvO.loadRoAll (t := 28); exact rfl; kernel_rfl; exact rfl; exact rfl; exact rfl)
    | (apply EvO.fldBox; exact rfl; exact rfl; ((with_reducible first | exact fl_25_0 | exact fl_25_1 | exact fl_25_2 | exact fl_25_3 | exact fl_28_0 | exact fl_28_1 | exact fl_28_2 | exact fl_28_3)); exact rfl; exact rfl; exact rfl)
    | (apply EvO.fldAddr; exact rfl; ((with_reducible first | exact fl_25_0 | exact fl_25_1 | exact fl_25_2 | exact fl_25_3 | exact fl_28_0 | exact fl_28_1 | exact fl_28_2 | exact fl_28_3)); exact rfl; exact rfl)
    | (apply EvO.fldRo; exact rfl; ((with_reducible first | exact fl_25_0 | exact fl_25_1 | exact fl_25_2 | exact fl_25_3 | exact fl_28_0 | exact fl_28_1 | exact fl_28_2 | exact fl_28_3)); exact rfl; exact rfl)
    | (apply EvO.boxAgg; exact rfl; kernel_rfl; exact rfl; exact rfl; exact rfl)
    | (apply EvO.storeI (t := 3); exact rfl; exact rfl; exact rfl; omega; omega; kernel_rfl; exact rfl; exact rfl)
    | (apply EvO.store (t := 3); exact rfl; exact rfl; exact rfl; exact rfl; exact rfl; kernel_rfl; exact rfl; kernel_rfl)
    | (apply EvO.storeBoxAgg (t := 28); exact rfl; exact rfl; exact rfl; exact rfl; kernel_rfl; exact rfl; exact rfl; kernel_rfl)
    | (apply EvO.alloc; ((with_reducible first | exact zr_28)); kernel_rfl; exact rfl; exact rfl; exact rfl)
    | refine Ev.ret ?_)
  all_goals exact ⟨_, rfl⟩
set_option maxRecDepth 20000 in
set_option maxHeartbeats 1000000 in
theorem l_eqIntS (xs ys : List Int) : CallSpec Try.prog 17 [.one (.ro (ints xs)), .one (.ro (ints ys))] (.t (.bool (decide (xs = ys)))) := by
  refine spec1 pm17 Try.func17 (by kernel_rfl) rfl Try.ntmps17 rfl Try.results17 rfl ?_
  intro B0 w0 S0
  have e1 := ints_len xs
  have e2 := ints_len ys
  refine Ev.len_le 0 rfl (fun e3 => ?_)
  by_cases hl : xs.length = ys.length
  · repeat' (first
      | refine Ev.seq ?_
      | refine Ev.block ?_
      | refine Ev.region ?_
      | (apply Ev.draws; exact follows; kernel_rfl)
      | refine Ev.skip ?_
      | refine Ev.exit ?_
      | refine EvO.nil ?_
      | (apply EvO.moveT; exact rfl; exact rfl; exact rfl)
      | (apply EvO.moveAl; exact rfl; exact rfl; exact rfl)
      | (apply EvO.moveAgg; exact rfl; exact rfl; exact rfl)
      | (apply EvO.assignOwn; exact rfl; exact rfl; exact rfl; exact rfl; exact rfl)
      | (apply EvO.assignT; exact rfl; exact rfl; exact rfl)
      | (apply EvO.assignAl; exact rfl; exact rfl; exact rfl)
      | (apply EvO.assignAgg; exact rfl; exact rfl; exact rfl)
      | (apply EvO.add; exact rfl; exact rfl; omega; exact rfl; exact rfl)
      | (apply EvO.neq; exact rfl; exact rfl; exact rfl; exact rfl)
      | (apply EvO.neqBs; exact rfl; exact rfl; kernel_rfl; exact rfl; exact rfl)
      | (apply EvO.neqB; exact rfl; exact rfl; kernel_rfl; exact rfl; exact rfl)
      | (apply EvO.lss; exact rfl; exact rfl; exact rfl; exact rfl)
      | (apply EvO.loadI (t := 3); exact rfl; exact rfl; omega; omega; kernel_rfl; exact rfl; exact rfl)
      | (apply EvO.loadOwn (t := 3); exact rfl; exact rfl; exact rfl; exact rfl; exact rfl; kernel_rfl; exact rfl; exact rfl)
      | (apply EvO.loadBox (t := 3); exact rfl; exact rfl; exact rfl; exact rfl; kernel_rfl; exact rfl; exact rfl)
      | (apply EvO.loadRo (t := 3); exact rfl; exact rfl; kernel_rfl; exact rfl; exact rfl)
      | (apply EvO.idxRoI; exact rfl; exact rfl; omega; omega; ((with_reducible first | exact es_26)); exact rfl; exact rfl)
      | (apply EvO.idxRo; exact rfl; exact rfl; omega; (first | assumption | exact rfl | exact recs_get (by omega) (by omega)); exact rfl; ((with_reducible first | exact es_26)); exact rfl; exact rfl)
      | (apply EvO.idxOwn; exact rfl; exact rfl; exact rfl; omega; (first | omega | (simp <;> omega)); ((with_reducible first | exact el_26)); exact rfl; exact rfl)
      | (apply EvO.lenRo; exact rfl; kernel_rfl; exact rfl; exact rfl)
      | (apply EvO.lenOwn; exact rfl; exact rfl; kernel_rfl; exact rfl; exact rfl)
      | (apply EvO.lenNil; exact rfl; kernel_rfl; exact rfl; exact rfl)
      | (apply Ev.condT; exact rfl)
      | (apply Ev.condF; exact rfl)
      | (apply Ev.cond; exact rfl; all_goals (intro hh; first | replace hh := of_decide_eq_true hh | replace hh := of_decide_eq_false hh | skip))
      | (apply EvO.move; exact rfl; exact rfl)
      | (apply EvO.assign; exact rfl; exact rfl)
      | refine Ev.ret ?_)
    all_goals first | (exfalso; omega) | skip
    refine Ev.loop (fun n fr => ∃ k : Int, fr 0 = .t (.ro (ints xs)) ∧ fr 1 = .t (.ro (ints ys)) ∧ fr 5 = .t (.int k) ∧ 0 ≤ k ∧ k + n = xs.length ∧ ∀ j : Int, 0 ≤ j → j < k → geti xs j = geti ys j) xs.length ⟨0, rfl, rfl, rfl, by omega, by omega, by omega⟩ ?_
    rintro n fr ⟨k, h0, h1, h5, hk, hn, hp⟩
    refine Ev.know 0 h0 (Ev.know 1 h1 (Ev.know 5 h5 ?_))
    repeat' (first
      | refine Ev.seq ?_
      | refine Ev.block ?_
      | refine Ev.region ?_
      | (apply Ev.draws; exact follows; kernel_rfl)
      | refine Ev.skip ?_
      | refine Ev.exit ?_
      | refine EvO.nil ?_
      | (apply EvO.moveT; exact rfl; exact rfl; exact rfl)
      | (apply EvO.moveAl; exact rfl; exact rfl; exact rfl)
      | (apply EvO.moveAgg; exact rfl; exact rfl; exact rfl)
      | (apply EvO.assignOwn; exact rfl; exact rfl; exact rfl; exact rfl; exact rfl)
      | (apply EvO.assignT; exact rfl; exact rfl; exact rfl)
      | (apply EvO.assignAl; exact rfl; exact rfl; exact rfl)
      | (apply EvO.assignAgg; exact rfl; exact rfl; exact rfl)
      | (apply EvO.add; exact rfl; exact rfl; omega; exact rfl; exact rfl)
      | (apply EvO.neq; exact rfl; exact rfl; exact rfl; exact rfl)
      | (apply EvO.neqBs; exact rfl; exact rfl; kernel_rfl; exact rfl; exact rfl)
      | (apply EvO.neqB; exact rfl; exact rfl; kernel_rfl; exact rfl; exact rfl)
      | (apply EvO.lss; exact rfl; exact rfl; exact rfl; exact rfl)
      | (apply EvO.loadI (t := 3); exact rfl; exact rfl; omega; omega; kernel_rfl; exact rfl; exact rfl)
      | (apply EvO.loadOwn (t := 3); exact rfl; exact rfl; exact rfl; exact rfl; exact rfl; kernel_rfl; exact rfl; exact rfl)
      | (apply EvO.loadBox (t := 3); exact rfl; exact rfl; exact rfl; exact rfl; kernel_rfl; exact rfl; exact rfl)
      | (apply EvO.loadRo (t := 3); exact rfl; exact rfl; kernel_rfl; exact rfl; exact rfl)
      | (apply EvO.idxRoI; exact rfl; exact rfl; omega; omega; ((with_reducible first | exact es_26)); exact rfl; exact rfl)
      | (apply EvO.idxRo; exact rfl; exact rfl; omega; (first | assumption | exact rfl | exact recs_get (by omega) (by omega)); exact rfl; ((with_reducible first | exact es_26)); exact rfl; exact rfl)
      | (apply EvO.idxOwn; exact rfl; exact rfl; exact rfl; omega; (first | omega | (simp <;> omega)); ((with_reducible first | exact el_26)); exact rfl; exact rfl)
      | (apply EvO.lenRo; exact rfl; kernel_rfl; exact rfl; exact rfl)
      | (apply EvO.lenOwn; exact rfl; exact rfl; kernel_rfl; exact rfl; exact rfl)
      | (apply EvO.lenNil; exact rfl; kernel_rfl; exact rfl; exact rfl)
      | (apply Ev.condT; exact rfl)
      | (apply Ev.condF; exact rfl)
      | (apply Ev.cond; exact rfl; all_goals (intro hh; first | replace hh := of_decide_eq_true hh | replace hh := of_decide_eq_false hh | skip))
      | (apply EvO.move; exact rfl; exact rfl)
      | (apply EvO.assign; exact rfl; exact rfl)
      | refine Ev.ret ?_)
    · have hne : ¬ xs = ys := fun e => (‹geti xs k ≠ geti ys k›) (by rw [e])
      rw [decide_eq_false hne]; rfl
    · refine ⟨n - 1, by omega, k + 1, rfl, rfl, rfl, by omega, by omega, fun j j0 j1 => ?_⟩
      by_cases hj : j = k
      · subst hj; simpa using ‹¬ geti xs j ≠ geti ys j›
      · exact hp j j0 (by omega)
    · have he : xs = ys := geti_ext hl (fun j j0 j1 => hp j j0 (by omega))
      rw [decide_eq_true he]; rfl
  · have hne : ¬ xs = ys := fun e => hl (by rw [e])
    repeat' (first
      | refine Ev.seq ?_
      | refine Ev.block ?_
      | refine Ev.region ?_
      | (apply Ev.draws; exact follows; kernel_rfl)
      | refine Ev.skip ?_
      | refine Ev.exit ?_
      | refine EvO.nil ?_
      | (apply EvO.moveT; exact rfl; exact rfl; exact rfl)
      | (apply EvO.moveAl; exact rfl; exact rfl; exact rfl)
      | (apply EvO.moveAgg; exact rfl; exact rfl; exact rfl)
      | (apply EvO.assignOwn; exact rfl; exact rfl; exact rfl; exact rfl; exact rfl)
      | (apply EvO.assignT; exact rfl; exact rfl; exact rfl)
      | (apply EvO.assignAl; exact rfl; exact rfl; exact rfl)
      | (apply EvO.assignAgg; exact rfl; exact rfl; exact rfl)
      | (apply EvO.add; exact rfl; exact rfl; omega; exact rfl; exact rfl)
      | (apply EvO.neq; exact rfl; exact rfl; exact rfl; exact rfl)
      | (apply EvO.neqBs; exact rfl; exact rfl; kernel_rfl; exact rfl; exact rfl)
      | (apply EvO.neqB; exact rfl; exact rfl; kernel_rfl; exact rfl; exact rfl)
      | (apply EvO.lss; exact rfl; exact rfl; exact rfl; exact rfl)
      | (apply EvO.loadI (t := 3); exact rfl; exact rfl; omega; omega; kernel_rfl; exact rfl; exact rfl)
      | (apply EvO.loadOwn (t := 3); exact rfl; exact rfl; exact rfl; exact rfl; exact rfl; kernel_rfl; exact rfl; exact rfl)
      | (apply EvO.loadBox (t := 3); exact rfl; exact rfl; exact rfl; exact rfl; kernel_rfl; exact rfl; exact rfl)
      | (apply EvO.loadRo (t := 3); exact rfl; exact rfl; kernel_rfl; exact rfl; exact rfl)
      | (apply EvO.idxRoI; exact rfl; exact rfl; omega; omega; ((with_reducible first | exact es_26)); exact rfl; exact rfl)
      | (apply EvO.idxRo; exact rfl; exact rfl; omega; (first | assumption | exact rfl | exact recs_get (by omega) (by omega)); exact rfl; ((with_reducible first | exact es_26)); exact rfl; exact rfl)
      | (apply EvO.idxOwn; exact rfl; exact rfl; exact rfl; omega; (first | omega | (simp <;> omega)); ((with_reducible first | exact el_26)); exact rfl; exact rfl)
      | (apply EvO.lenRo; exact rfl; kernel_rfl; exact rfl; exact rfl)
      | (apply EvO.lenOwn; exact rfl; exact rfl; kernel_rfl; exact rfl; exact rfl)
      | (apply EvO.lenNil; exact rfl; kernel_rfl; exact rfl; exact rfl)
      | (apply Ev.condT; exact rfl)
      | (apply Ev.condF; exact rfl)
      | (apply Ev.cond; exact rfl; all_goals (intro hh; first | replace hh := of_decide_eq_true hh | replace hh := of_decide_eq_false hh | skip))
      | (apply EvO.move; exact rfl; exact rfl)
      | (apply EvO.assign; exact rfl; exact rfl)
      | refine Ev.ret ?_)
    all_goals first | (exfalso; omega) | (rw [decide_eq_false hne]; rfl)
set_option maxRecDepth 20000 in
set_option maxHeartbeats 1000000 in
theorem l_toIntS (xs : List Int) (hx : xs.length ≤ 1048576) : CallSpec Try.prog 15 [.one (.ro (ints xs))] (.t (.own false 3 (ints xs))) := by
  refine spec1 (fun _ => []) Try.func15 (by kernel_rfl) rfl Try.ntmps15 rfl Try.results15 rfl ?_
  intro B0 w0 S0
  have e1 := ints_len xs
  repeat' (first
    | refine Ev.seq ?_
    | refine Ev.block ?_
    | refine Ev.region ?_
    | refine Ev.skip ?_
    | refine Ev.exit ?_
    | refine EvO.nil ?_
    | (apply EvO.moveT; exact rfl; exact rfl; exact rfl)
    | (apply EvO.moveAl; exact rfl; exact rfl; exact rfl)
    | (apply EvO.moveAgg; exact rfl; exact rfl; exact rfl)
    | (apply EvO.assignOwn; exact rfl; exact rfl; exact rfl; exact rfl; exact rfl)
    | (apply EvO.assignT; exact rfl; exact rfl; exact rfl)
    | (apply EvO.assignAl; exact rfl; exact rfl; exact rfl)
    | (apply EvO.assignAgg; exact rfl; exact rfl; exact rfl)
    | (apply EvO.add; exact rfl; exact rfl; omega; exact rfl; exact rfl)
    | (apply EvO.lss; exact rfl; exact rfl; exact rfl; exact rfl)
    | (apply EvO.loadI (t := 3); exact rfl; exact rfl; omega; omega; kernel_rfl; exact rfl; exact rfl)
    | (apply EvO.loadOwn (t := 3); exact rfl; exact rfl; exact rfl; exact rfl; exact rfl; kernel_rfl; exact rfl; exact rfl)
    | (apply EvO.loadBox (t := 3); exact rfl; exact rfl; exact rfl; exact rfl; kernel_rfl; exact rfl; exact rfl)
    | (apply EvO.loadRo (t := 3); exact rfl; exact rfl; kernel_rfl; exact rfl; exact rfl)
    | (apply EvO.idxRoI; exact rfl; exact rfl; omega; omega; ((with_reducible first | exact es_26)); exact rfl; exact rfl)
    | (apply EvO.idxRo; exact rfl; exact rfl; omega; (first | assumption | exact rfl | exact recs_get (by omega) (by omega)); exact rfl; ((with_reducible first | exact es_26)); exact rfl; exact rfl)
    | (apply EvO.idxOwn; exact rfl; exact rfl; exact rfl; omega; (first | omega | (simp <;> omega)); ((with_reducible first | exact el_26)); exact rfl; exact rfl)
    | (apply EvO.storeI (t := 3); exact rfl; exact rfl; exact rfl; omega; omega; kernel_rfl; exact rfl; exact rfl)
    | (apply EvO.makeI; exact rfl; exact rfl; ((with_reducible first | exact el_26)); ((with_reducible first | exact zr_3)); ((with_reducible first | exact sz_3)); kernel_rfl; omega; exact rfl; exact rfl)
    | (apply EvO.store (t := 3); exact rfl; exact rfl; exact rfl; exact rfl; exact rfl; kernel_rfl; exact rfl; kernel_rfl)
    | (apply EvO.lenRo; exact rfl; kernel_rfl; exact rfl; exact rfl)
    | (apply EvO.lenOwn; exact rfl; exact rfl; kernel_rfl; exact rfl; exact rfl)
    | (apply EvO.lenNil; exact rfl; kernel_rfl; exact rfl; exact rfl)
    | (apply Ev.condT; exact rfl)
    | (apply Ev.condF; exact rfl)
    | (apply Ev.cond; exact rfl; all_goals (intro hh; first | replace hh := of_decide_eq_true hh | replace hh := of_decide_eq_false hh | skip))
    | (apply EvO.move; exact rfl; exact rfl)
    | (apply EvO.assign; exact rfl; exact rfl)
    | refine Ev.ret ?_)
  all_goals first | (exfalso; omega) | skip
  refine Ev.loop (fun n fr => ∃ (k : Int) (ys : List Int), fr 0 = .t (.ro (ints xs)) ∧ fr 3 = .t (.own false 3 (ints ys)) ∧ fr 4 = .t (.int k) ∧ 0 ≤ k ∧ k + n = xs.length ∧ ys.length = xs.length ∧ ∀ j : Int, 0 ≤ j → j < k → geti ys j = geti xs j) xs.length ⟨0, List.replicate (ints xs).length 0, rfl, rfl, rfl, by omega, by omega, by simp [e1], by omega⟩ ?_
  rintro n fr ⟨k, ys, h0, h3, h4, hk, hn, hl, hp⟩
  have e2 := ints_len ys
  refine Ev.know 0 h0 (Ev.know 3 h3 (Ev.know 4 h4 ?_))
  repeat' (first
    | refine Ev.seq ?_
    | refine Ev.block ?_
    | refine Ev.region ?_
    | refine Ev.skip ?_
    | refine Ev.exit ?_
    | refine EvO.nil ?_
    | (apply EvO.moveT; exact rfl; exact rfl; exact rfl)
    | (apply EvO.moveAl; exact rfl; exact rfl; exact rfl)
    | (apply EvO.moveAgg; exact rfl; exact rfl; exact rfl)
    | (apply EvO.assignOwn; exact rfl; exact rfl; exact rfl; exact rfl; exact rfl)
    | (apply EvO.assignT; exact rfl; exact rfl; exact rfl)
    | (apply EvO.assignAl; exact rfl; exact rfl; exact rfl)
    | (apply EvO.assignAgg; exact rfl; exact rfl; exact rfl)
    | (apply EvO.add; exact rfl; exact rfl; omega; exact rfl; exact rfl)
    | (apply EvO.lss; exact rfl; exact rfl; exact rfl; exact rfl)
    | (apply EvO.loadI (t := 3); exact rfl; exact rfl; omega; omega; kernel_rfl; exact rfl; exact rfl)
    | (apply EvO.loadOwn (t := 3); exact rfl; exact rfl; exact rfl; exact rfl; exact rfl; kernel_rfl; exact rfl; exact rfl)
    | (apply EvO.loadBox (t := 3); exact rfl; exact rfl; exact rfl; exact rfl; kernel_rfl; exact rfl; exact rfl)
    | (apply EvO.loadRo (t := 3); exact rfl; exact rfl; kernel_rfl; exact rfl; exact rfl)
    | (apply EvO.idxRoI; exact rfl; exact rfl; omega; omega; ((with_reducible first | exact es_26)); exact rfl; exact rfl)
    | (apply EvO.idxRo; exact rfl; exact rfl; omega; (first | assumption | exact rfl | exact recs_get (by omega) (by omega)); exact rfl; ((with_reducible first | exact es_26)); exact rfl; exact rfl)
    | (apply EvO.idxOwn; exact rfl; exact rfl; exact rfl; omega; (first | omega | (simp <;> omega)); ((with_reducible first | exact el_26)); exact rfl; exact rfl)
    | (apply EvO.storeI (t := 3); exact rfl; exact rfl; exact rfl; omega; omega; kernel_rfl; exact rfl; exact rfl)
    | (apply EvO.makeI; exact rfl; exact rfl; ((with_reducible first | exact el_26)); ((with_reducible first | exact zr_3)); ((with_reducible first | exact sz_3)); kernel_rfl; omega; exact rfl; exact rfl)
    | (apply EvO.store (t := 3); exact rfl; exact rfl; exact rfl; exact rfl; exact rfl; kernel_rfl; exact rfl; kernel_rfl)
    | (apply EvO.lenRo; exact rfl; kernel_rfl; exact rfl; exact rfl)
    | (apply EvO.lenOwn; exact rfl; exact rfl; kernel_rfl; exact rfl; exact rfl)
    | (apply EvO.lenNil; exact rfl; kernel_rfl; exact rfl; exact rfl)
    | (apply Ev.condT; exact rfl)
    | (apply Ev.condF; exact rfl)
    | (apply Ev.cond; exact rfl; all_goals (intro hh; first | replace hh := of_decide_eq_true hh | replace hh := of_decide_eq_false hh | skip))
    | (apply EvO.move; exact rfl; exact rfl)
    | (apply EvO.assign; exact rfl; exact rfl)
    | refine Ev.ret ?_)
  · refine ⟨n - 1, by omega, k + 1, seti ys k (geti xs k), rfl, rfl, rfl, by omega, by omega, by rw [seti_len]; exact hl, fun j j0 j1 => ?_⟩
    by_cases hj : j = k
    · subst hj; exact geti_seti_eq j0 (by omega)
    · rw [geti_seti_ne hk j0 hj]; exact hp j j0 (by omega)
  · have he : ys = xs := geti_ext (by omega) (fun j j0 j1 => hp j j0 (by omega))
    subst he
    rfl
theorem l_toIntSr (xs : List Int) (hx : xs.length ≤ 1048576) : CallSpec Try.prog 15 [.one (.ro (ints xs))] (.t (.ro (ints xs))) := (l_toIntS xs hx).shut (ints_imm xs)
def Dev.rn (d : Dev) : Int := d.W * d.H * d.per
theorem rnBd {d : Dev} (h : d.ok) : 0 ≤ d.rn ∧ d.rn ≤ 828 := by
  have hb := h.b
  have hp : 7 ≤ d.per ∧ d.per ≤ 23 := by unfold Dev.per; omega
  unfold Dev.rn
  refine ⟨Int.mul_nonneg (by omega) (by omega), ?_⟩
  have h3 : d.W * d.H * d.per ≤ d.W * d.H * 23 := Int.mul_le_mul_of_nonneg_left (by omega) (by omega)
  omega
def Dev.costsOk (d : Dev) (xs : List Int) : Prop := d.ok ∧ (xs.length : Int) = d.rn ∧ ∀ j : Int, 0 ≤ j → j < (xs.length : Int) → 1 ≤ geti xs j ∧ geti xs j ≤ 100000
set_option maxRecDepth 20000 in
set_option maxHeartbeats 1000000 in
theorem i_routeNodes (d : Dev) (h : d.ok) : CallSpec Try.prog 31 [.agg (encDev d)] (.t (.int d.rn)) := by
  refine spec1 pm31 Try.func31 (by kernel_rfl) rfl Try.ntmps31 rfl Try.results31 rfl ?_
  intro B0 w0 S0
  have hb := h.b
  have hr := rnBd h
  unfold Dev.rn at hr ⊢
  have hp : 7 ≤ d.per ∧ d.per ≤ 23 := by unfold Dev.per; omega
  repeat' (first
    | refine Ev.seq ?_
    | refine Ev.region ?_
    | (apply Ev.draws; exact follows; kernel_rfl)
    | refine Ev.skip ?_
    | refine EvO.nil ?_
    | (apply EvO.assignOwn; exact rfl; exact rfl; exact rfl; exact rfl; exact rfl)
    | (apply EvO.assignT; exact rfl; exact rfl; exact rfl)
    | (apply EvO.assignAl; exact rfl; exact rfl; exact rfl)
    | (apply EvO.assignAgg; exact rfl; exact rfl; exact rfl)
    | (apply EvO.mul; exact rfl; exact rfl; (first | omega | (apply mul_bd <;> omega)); exact rfl; exact rfl)
    | (apply EvO.loadI (t := 3); exact rfl; exact rfl; omega; omega; kernel_rfl; exact rfl; exact rfl)
    | (apply EvO.loadOwn (t := 3); exact rfl; exact rfl; exact rfl; exact rfl; exact rfl; kernel_rfl; exact rfl; exact rfl)
    | (apply EvO.loadBoxAgg (t := 28); exact rfl; exact rfl; exact rfl; kernel_rfl; exact rfl; exact rfl; exact rfl)
    | (apply EvO.loadBox (t := 3); exact rfl; exact rfl; exact rfl; exact rfl; kernel_rfl; exact rfl; exact rfl)
    | (apply EvO.loadRo (t := 3); exact rfl; exact rfl; kernel_rfl; exact rfl; exact rfl)
    | (apply EvO.loadRoAll (t := 28); exact rfl; kernel_rfl; exact rfl; exact rfl; exact rfl)
    | (apply EvO.fldBox; exact rfl; exact rfl; ((with_reducible first | exact fl_28_0 | exact fl_28_1)); exact rfl; exact rfl; exact rfl)
    | (apply EvO.fldAddr; exact rfl; ((with_reducible first | exact fl_28_0 | exact fl_28_1)); exact rfl; exact rfl)
    | (apply EvO.fldRo; exact rfl; ((with_reducible first | exact fl_28_0 | exact fl_28_1)); exact rfl; exact rfl)
    | (apply EvO.boxAgg; exact rfl; kernel_rfl; exact rfl; exact rfl; exact rfl)
    | (apply EvO.call; exact (i_perTile _ h); exact rfl; exact rfl; exact rfl)
    | (apply EvO.assign; exact rfl; exact rfl)
    | refine Ev.ret ?_)
  all_goals first | (exfalso; omega) | rfl
set_option maxRecDepth 20000 in
set_option maxHeartbeats 1000000 in
theorem s_RouteNodes (d : Dev) (h : d.ok) : CallSpec Try.prog 28 [.agg (encDev d)] (.t (.int d.rn)) := by
  refine spec1 pm28 Try.func28 (by kernel_rfl) rfl Try.ntmps28 rfl Try.results28 rfl ?_
  intro B0 w0 S0
  have hb := h.b
  have hr := rnBd h
  unfold Dev.rn at hr ⊢
  have hp : 7 ≤ d.per ∧ d.per ≤ 23 := by unfold Dev.per; omega
  repeat' (first
    | refine Ev.seq ?_
    | refine Ev.region ?_
    | (apply Ev.draws; exact follows; kernel_rfl)
    | refine Ev.skip ?_
    | refine EvO.nil ?_
    | (apply EvO.assignOwn; exact rfl; exact rfl; exact rfl; exact rfl; exact rfl)
    | (apply EvO.assignT; exact rfl; exact rfl; exact rfl)
    | (apply EvO.assignAl; exact rfl; exact rfl; exact rfl)
    | (apply EvO.assignAgg; exact rfl; exact rfl; exact rfl)
    | (apply EvO.mul; exact rfl; exact rfl; (first | omega | (apply mul_bd <;> omega)); exact rfl; exact rfl)
    | (apply EvO.notP; exact rfl; exact rfl; exact rfl)
    | (apply EvO.not; exact rfl; exact rfl; exact rfl)
    | (apply EvO.loadI (t := 3); exact rfl; exact rfl; omega; omega; kernel_rfl; exact rfl; exact rfl)
    | (apply EvO.loadOwn (t := 3); exact rfl; exact rfl; exact rfl; exact rfl; exact rfl; kernel_rfl; exact rfl; exact rfl)
    | (apply EvO.loadBoxAgg (t := 28); exact rfl; exact rfl; exact rfl; kernel_rfl; exact rfl; exact rfl; exact rfl)
    | (apply EvO.loadBox (t := 3); exact rfl; exact rfl; exact rfl; exact rfl; kernel_rfl; exact rfl; exact rfl)
    | (apply EvO.loadRo (t := 3); exact rfl; exact rfl; kernel_rfl; exact rfl; exact rfl)
    | (apply EvO.loadRoAll (t := 28); exact rfl; kernel_rfl; exact rfl; exact rfl; exact rfl)
    | (apply EvO.fldBox; exact rfl; exact rfl; ((with_reducible first | exact fl_28_0 | exact fl_28_1)); exact rfl; exact rfl; exact rfl)
    | (apply EvO.fldAddr; exact rfl; ((with_reducible first | exact fl_28_0 | exact fl_28_1)); exact rfl; exact rfl)
    | (apply EvO.fldRo; exact rfl; ((with_reducible first | exact fl_28_0 | exact fl_28_1)); exact rfl; exact rfl)
    | (apply EvO.boxAgg; exact rfl; kernel_rfl; exact rfl; exact rfl; exact rfl)
    | (apply EvO.call; exact (CallSpec.bT (s_DeviceOk _) h); exact rfl; exact rfl; exact rfl)
    | (apply EvO.call; exact (s_l27Per _ h); exact rfl; exact rfl; exact rfl)
    | (apply Ev.condT; exact rfl)
    | (apply Ev.condF; exact rfl)
    | (apply Ev.cond; exact rfl; all_goals (intro hh; first | replace hh := of_decide_eq_true hh | replace hh := of_decide_eq_false hh | skip))
    | (apply EvO.assign; exact rfl; exact rfl)
    | refine Ev.ret ?_)
  all_goals first | (exfalso; omega) | rfl
set_option maxRecDepth 20000 in
set_option maxHeartbeats 1000000 in
theorem i_CostsOk (d : Dev) (xs : List Int) : CallSpec Try.prog 16 [.agg (encDev d), .one (.ro (ints xs))] (.t (.bool (dec (d.costsOk xs)))) := by
  refine spec1 (fun _ => []) Try.func16 (by kernel_rfl) rfl Try.ntmps16 rfl Try.results16 rfl ?_
  intro B0 w0 S0
  have e1 := ints_len xs
  refine Ev.len_le 1 rfl (fun e3 => ?_)
  by_cases h : d.ok
  · by_cases hl : (xs.length : Int) = d.rn
    · repeat' (first
        | refine Ev.seq ?_
        | refine Ev.block ?_
        | refine Ev.region ?_
        | refine Ev.skip ?_
        | refine Ev.exit ?_
        | refine EvO.nil ?_
        | (apply EvO.moveT; exact rfl; exact rfl; exact rfl)
        | (apply EvO.moveAl; exact rfl; exact rfl; exact rfl)
        | (apply EvO.moveAgg; exact rfl; exact rfl; exact rfl)
        | (apply EvO.assignOwn; exact rfl; exact rfl; exact rfl; exact rfl; exact rfl)
        | (apply EvO.assignT; exact rfl; exact rfl; exact rfl)
        | (apply EvO.assignAl; exact rfl; exact rfl; exact rfl)
        | (apply EvO.assignAgg; exact rfl; exact rfl; exact rfl)
        | (apply EvO.add; exact rfl; exact rfl; omega; exact rfl; exact rfl)
        | (apply EvO.neq; exact rfl; exact rfl; exact rfl; exact rfl)
        | (apply EvO.neqBs; exact rfl; exact rfl; kernel_rfl; exact rfl; exact rfl)
        | (apply EvO.neqB; exact rfl; exact rfl; kernel_rfl; exact rfl; exact rfl)
        | (apply EvO.lss; exact rfl; exact rfl; exact rfl; exact rfl)
        | (apply EvO.notP; exact rfl; exact rfl; exact rfl)
        | (apply EvO.not; exact rfl; exact rfl; exact rfl)
        | (apply EvO.pickT; exact rfl; exact rfl; exact rfl; exact rfl)
        | (apply EvO.pickF; exact rfl; exact rfl; exact rfl; exact rfl)
        | (apply EvO.skip; exact rfl; exact rfl; exact rfl)
        | (apply EvO.loadI (t := 3); exact rfl; exact rfl; omega; omega; kernel_rfl; exact rfl; exact rfl)
        | (apply EvO.loadOwn (t := 3); exact rfl; exact rfl; exact rfl; exact rfl; exact rfl; kernel_rfl; exact rfl; exact rfl)
        | (apply EvO.loadBoxAgg (t := 28); exact rfl; exact rfl; exact rfl; kernel_rfl; exact rfl; exact rfl; exact rfl)
        | (apply EvO.loadBox (t := 3); exact rfl; exact rfl; exact rfl; exact rfl; kernel_rfl; exact rfl; exact rfl)
        | (apply EvO.loadRo (t := 3); exact rfl; exact rfl; kernel_rfl; exact rfl; exact rfl)
        | (apply EvO.loadRoAll (t := 28); exact rfl; kernel_rfl; exact rfl; exact rfl; exact rfl)
        | (apply EvO.boxAgg; exact rfl; kernel_rfl; exact rfl; exact rfl; exact rfl)
        | (apply EvO.idxRoI; exact rfl; exact rfl; omega; omega; ((with_reducible first | exact es_26)); exact rfl; exact rfl)
        | (apply EvO.idxRo; exact rfl; exact rfl; omega; (first | assumption | exact rfl | exact recs_get (by omega) (by omega)); exact rfl; ((with_reducible first | exact es_26)); exact rfl; exact rfl)
        | (apply EvO.idxOwn; exact rfl; exact rfl; exact rfl; omega; (first | omega | (simp <;> omega)); ((with_reducible first | exact el_26)); exact rfl; exact rfl)
        | (apply EvO.lenRo; exact rfl; kernel_rfl; exact rfl; exact rfl)
        | (apply EvO.lenOwn; exact rfl; exact rfl; kernel_rfl; exact rfl; exact rfl)
        | (apply EvO.lenNil; exact rfl; kernel_rfl; exact rfl; exact rfl)
        | (apply EvO.call; exact (CallSpec.bT (i_DeviceOk _) h); exact rfl; exact rfl; exact rfl)
        | (apply EvO.call; exact (i_routeNodes _ h); exact rfl; exact rfl; exact rfl)
        | (apply Ev.condT; exact rfl)
        | (apply Ev.condF; exact rfl)
        | (apply Ev.cond; exact rfl; all_goals (intro hh; first | replace hh := of_decide_eq_true hh | replace hh := of_decide_eq_false hh | skip))
        | (apply EvO.gsplit; exact rfl; exact rfl; exact rfl; all_goals (intro hh; first | replace hh := of_decide_eq_true hh | replace hh := of_decide_eq_false hh | skip))
        | (apply EvO.move; exact rfl; exact rfl)
        | (apply EvO.assign; exact rfl; exact rfl)
        | refine Ev.ret ?_)
      all_goals first | (exfalso; omega) | skip
      refine Ev.loop (fun n fr => ∃ k : Int, fr 17 = .t (.ro (ints xs)) ∧ fr 18 = .t (.int ((ints xs).length : Int)) ∧ fr 19 = .t (.int k) ∧ 0 ≤ k ∧ k + n = xs.length ∧ ∀ j : Int, 0 ≤ j → j < k → 1 ≤ geti xs j ∧ geti xs j ≤ 100000) xs.length ⟨0, rfl, rfl, rfl, by omega, by omega, by omega⟩ ?_
      rintro n fr ⟨k, h0, h1, h5, hk, hn, hp⟩
      refine Ev.know 17 h0 (Ev.know 18 h1 (Ev.know 19 h5 ?_))
      repeat' (first
        | refine Ev.seq ?_
        | refine Ev.block ?_
        | refine Ev.region ?_
        | refine Ev.skip ?_
        | refine Ev.exit ?_
        | refine EvO.nil ?_
        | (apply EvO.moveT; exact rfl; exact rfl; exact rfl)
        | (apply EvO.moveAl; exact rfl; exact rfl; exact rfl)
        | (apply EvO.moveAgg; exact rfl; exact rfl; exact rfl)
        | (apply EvO.assignOwn; exact rfl; exact rfl; exact rfl; exact rfl; exact rfl)
        | (apply EvO.assignT; exact rfl; exact rfl; exact rfl)
        | (apply EvO.assignAl; exact rfl; exact rfl; exact rfl)
        | (apply EvO.assignAgg; exact rfl; exact rfl; exact rfl)
        | (apply EvO.add; exact rfl; exact rfl; omega; exact rfl; exact rfl)
        | (apply EvO.neq; exact rfl; exact rfl; exact rfl; exact rfl)
        | (apply EvO.neqBs; exact rfl; exact rfl; kernel_rfl; exact rfl; exact rfl)
        | (apply EvO.neqB; exact rfl; exact rfl; kernel_rfl; exact rfl; exact rfl)
        | (apply EvO.lss; exact rfl; exact rfl; exact rfl; exact rfl)
        | (apply EvO.notP; exact rfl; exact rfl; exact rfl)
        | (apply EvO.not; exact rfl; exact rfl; exact rfl)
        | (apply EvO.pickT; exact rfl; exact rfl; exact rfl; exact rfl)
        | (apply EvO.pickF; exact rfl; exact rfl; exact rfl; exact rfl)
        | (apply EvO.skip; exact rfl; exact rfl; exact rfl)
        | (apply EvO.loadI (t := 3); exact rfl; exact rfl; omega; omega; kernel_rfl; exact rfl; exact rfl)
        | (apply EvO.loadOwn (t := 3); exact rfl; exact rfl; exact rfl; exact rfl; exact rfl; kernel_rfl; exact rfl; exact rfl)
        | (apply EvO.loadBoxAgg (t := 28); exact rfl; exact rfl; exact rfl; kernel_rfl; exact rfl; exact rfl; exact rfl)
        | (apply EvO.loadBox (t := 3); exact rfl; exact rfl; exact rfl; exact rfl; kernel_rfl; exact rfl; exact rfl)
        | (apply EvO.loadRo (t := 3); exact rfl; exact rfl; kernel_rfl; exact rfl; exact rfl)
        | (apply EvO.loadRoAll (t := 28); exact rfl; kernel_rfl; exact rfl; exact rfl; exact rfl)
        | (apply EvO.boxAgg; exact rfl; kernel_rfl; exact rfl; exact rfl; exact rfl)
        | (apply EvO.idxRoI; exact rfl; exact rfl; omega; omega; ((with_reducible first | exact es_26)); exact rfl; exact rfl)
        | (apply EvO.idxRo; exact rfl; exact rfl; omega; (first | assumption | exact rfl | exact recs_get (by omega) (by omega)); exact rfl; ((with_reducible first | exact es_26)); exact rfl; exact rfl)
        | (apply EvO.idxOwn; exact rfl; exact rfl; exact rfl; omega; (first | omega | (simp <;> omega)); ((with_reducible first | exact el_26)); exact rfl; exact rfl)
        | (apply EvO.lenRo; exact rfl; kernel_rfl; exact rfl; exact rfl)
        | (apply EvO.lenOwn; exact rfl; exact rfl; kernel_rfl; exact rfl; exact rfl)
        | (apply EvO.lenNil; exact rfl; kernel_rfl; exact rfl; exact rfl)
        | (apply EvO.call; exact (i_inRange _ _ _); exact rfl; exact rfl; exact rfl)
        | (apply Ev.condT; exact rfl)
        | (apply Ev.condF; exact rfl)
        | (apply Ev.cond; exact rfl; all_goals (intro hh; first | replace hh := of_decide_eq_true hh | replace hh := of_decide_eq_false hh | skip))
        | (apply EvO.gsplit; exact rfl; exact rfl; exact rfl; all_goals (intro hh; first | replace hh := of_decide_eq_true hh | replace hh := of_decide_eq_false hh | skip))
        | (apply EvO.move; exact rfl; exact rfl)
        | (apply EvO.assign; exact rfl; exact rfl)
        | refine Ev.ret ?_)
      · rw [dec_f (fun e => absurd (e.2.2 k hk (by omega)) ‹¬ (1 ≤ geti xs k ∧ geti xs k ≤ 100000)›)]; rfl
      · refine ⟨n - 1, by omega, k + 1, rfl, rfl, rfl, by omega, by omega, fun j j0 j1 => ?_⟩
        by_cases hj : j = k
        · subst hj; exact Decidable.of_not_not ‹_›
        · exact hp j j0 (by omega)
      · rw [dec_t ⟨h, hl, fun j j0 j1 => hp j j0 (by omega)⟩]; rfl
    · repeat' (first
        | refine Ev.seq ?_
        | refine Ev.block ?_
        | refine Ev.region ?_
        | refine Ev.skip ?_
        | refine Ev.exit ?_
        | refine EvO.nil ?_
        | (apply EvO.moveT; exact rfl; exact rfl; exact rfl)
        | (apply EvO.moveAl; exact rfl; exact rfl; exact rfl)
        | (apply EvO.moveAgg; exact rfl; exact rfl; exact rfl)
        | (apply EvO.assignOwn; exact rfl; exact rfl; exact rfl; exact rfl; exact rfl)
        | (apply EvO.assignT; exact rfl; exact rfl; exact rfl)
        | (apply EvO.assignAl; exact rfl; exact rfl; exact rfl)
        | (apply EvO.assignAgg; exact rfl; exact rfl; exact rfl)
        | (apply EvO.add; exact rfl; exact rfl; omega; exact rfl; exact rfl)
        | (apply EvO.neq; exact rfl; exact rfl; exact rfl; exact rfl)
        | (apply EvO.neqBs; exact rfl; exact rfl; kernel_rfl; exact rfl; exact rfl)
        | (apply EvO.neqB; exact rfl; exact rfl; kernel_rfl; exact rfl; exact rfl)
        | (apply EvO.lss; exact rfl; exact rfl; exact rfl; exact rfl)
        | (apply EvO.notP; exact rfl; exact rfl; exact rfl)
        | (apply EvO.not; exact rfl; exact rfl; exact rfl)
        | (apply EvO.pickT; exact rfl; exact rfl; exact rfl; exact rfl)
        | (apply EvO.pickF; exact rfl; exact rfl; exact rfl; exact rfl)
        | (apply EvO.skip; exact rfl; exact rfl; exact rfl)
        | (apply EvO.loadI (t := 3); exact rfl; exact rfl; omega; omega; kernel_rfl; exact rfl; exact rfl)
        | (apply EvO.loadOwn (t := 3); exact rfl; exact rfl; exact rfl; exact rfl; exact rfl; kernel_rfl; exact rfl; exact rfl)
        | (apply EvO.loadBoxAgg (t := 28); exact rfl; exact rfl; exact rfl; kernel_rfl; exact rfl; exact rfl; exact rfl)
        | (apply EvO.loadBox (t := 3); exact rfl; exact rfl; exact rfl; exact rfl; kernel_rfl; exact rfl; exact rfl)
        | (apply EvO.loadRo (t := 3); exact rfl; exact rfl; kernel_rfl; exact rfl; exact rfl)
        | (apply EvO.loadRoAll (t := 28); exact rfl; kernel_rfl; exact rfl; exact rfl; exact rfl)
        | (apply EvO.boxAgg; exact rfl; kernel_rfl; exact rfl; exact rfl; exact rfl)
        | (apply EvO.idxRoI; exact rfl; exact rfl; omega; omega; ((with_reducible first | exact es_26)); exact rfl; exact rfl)
        | (apply EvO.idxRo; exact rfl; exact rfl; omega; (first | assumption | exact rfl | exact recs_get (by omega) (by omega)); exact rfl; ((with_reducible first | exact es_26)); exact rfl; exact rfl)
        | (apply EvO.idxOwn; exact rfl; exact rfl; exact rfl; omega; (first | omega | (simp <;> omega)); ((with_reducible first | exact el_26)); exact rfl; exact rfl)
        | (apply EvO.lenRo; exact rfl; kernel_rfl; exact rfl; exact rfl)
        | (apply EvO.lenOwn; exact rfl; exact rfl; kernel_rfl; exact rfl; exact rfl)
        | (apply EvO.lenNil; exact rfl; kernel_rfl; exact rfl; exact rfl)
        | (apply EvO.call; exact (CallSpec.bT (i_DeviceOk _) h); exact rfl; exact rfl; exact rfl)
        | (apply EvO.call; exact (i_routeNodes _ h); exact rfl; exact rfl; exact rfl)
        | (apply Ev.condT; exact rfl)
        | (apply Ev.condF; exact rfl)
        | (apply Ev.cond; exact rfl; all_goals (intro hh; first | replace hh := of_decide_eq_true hh | replace hh := of_decide_eq_false hh | skip))
        | (apply EvO.gsplit; exact rfl; exact rfl; exact rfl; all_goals (intro hh; first | replace hh := of_decide_eq_true hh | replace hh := of_decide_eq_false hh | skip))
        | (apply EvO.move; exact rfl; exact rfl)
        | (apply EvO.assign; exact rfl; exact rfl)
        | refine Ev.ret ?_)
      all_goals first | (exfalso; omega) | (rw [dec_f (fun e => hl e.2.1)]; rfl)
  · repeat' (first
      | refine Ev.seq ?_
      | refine Ev.block ?_
      | refine Ev.region ?_
      | refine Ev.skip ?_
      | refine Ev.exit ?_
      | refine EvO.nil ?_
      | (apply EvO.moveT; exact rfl; exact rfl; exact rfl)
      | (apply EvO.moveAl; exact rfl; exact rfl; exact rfl)
      | (apply EvO.moveAgg; exact rfl; exact rfl; exact rfl)
      | (apply EvO.assignOwn; exact rfl; exact rfl; exact rfl; exact rfl; exact rfl)
      | (apply EvO.assignT; exact rfl; exact rfl; exact rfl)
      | (apply EvO.assignAl; exact rfl; exact rfl; exact rfl)
      | (apply EvO.assignAgg; exact rfl; exact rfl; exact rfl)
      | (apply EvO.add; exact rfl; exact rfl; omega; exact rfl; exact rfl)
      | (apply EvO.neq; exact rfl; exact rfl; exact rfl; exact rfl)
      | (apply EvO.neqBs; exact rfl; exact rfl; kernel_rfl; exact rfl; exact rfl)
      | (apply EvO.neqB; exact rfl; exact rfl; kernel_rfl; exact rfl; exact rfl)
      | (apply EvO.lss; exact rfl; exact rfl; exact rfl; exact rfl)
      | (apply EvO.notP; exact rfl; exact rfl; exact rfl)
      | (apply EvO.not; exact rfl; exact rfl; exact rfl)
      | (apply EvO.pickT; exact rfl; exact rfl; exact rfl; exact rfl)
      | (apply EvO.pickF; exact rfl; exact rfl; exact rfl; exact rfl)
      | (apply EvO.skip; exact rfl; exact rfl; exact rfl)
      | (apply EvO.loadI (t := 3); exact rfl; exact rfl; omega; omega; kernel_rfl; exact rfl; exact rfl)
      | (apply EvO.loadOwn (t := 3); exact rfl; exact rfl; exact rfl; exact rfl; exact rfl; kernel_rfl; exact rfl; exact rfl)
      | (apply EvO.loadBoxAgg (t := 28); exact rfl; exact rfl; exact rfl; kernel_rfl; exact rfl; exact rfl; exact rfl)
      | (apply EvO.loadBox (t := 3); exact rfl; exact rfl; exact rfl; exact rfl; kernel_rfl; exact rfl; exact rfl)
      | (apply EvO.loadRo (t := 3); exact rfl; exact rfl; kernel_rfl; exact rfl; exact rfl)
      | (apply EvO.loadRoAll (t := 28); exact rfl; kernel_rfl; exact rfl; exact rfl; exact rfl)
      | (apply EvO.boxAgg; exact rfl; kernel_rfl; exact rfl; exact rfl; exact rfl)
      | (apply EvO.idxRoI; exact rfl; exact rfl; omega; omega; ((with_reducible first | exact es_26)); exact rfl; exact rfl)
      | (apply EvO.idxRo; exact rfl; exact rfl; omega; (first | assumption | exact rfl | exact recs_get (by omega) (by omega)); exact rfl; ((with_reducible first | exact es_26)); exact rfl; exact rfl)
      | (apply EvO.idxOwn; exact rfl; exact rfl; exact rfl; omega; (first | omega | (simp <;> omega)); ((with_reducible first | exact el_26)); exact rfl; exact rfl)
      | (apply EvO.lenRo; exact rfl; kernel_rfl; exact rfl; exact rfl)
      | (apply EvO.lenOwn; exact rfl; exact rfl; kernel_rfl; exact rfl; exact rfl)
      | (apply EvO.lenNil; exact rfl; kernel_rfl; exact rfl; exact rfl)
      | (apply EvO.call; exact (CallSpec.bF (i_DeviceOk _) h); exact rfl; exact rfl; exact rfl)
      | (apply Ev.condT; exact rfl)
      | (apply Ev.condF; exact rfl)
      | (apply Ev.cond; exact rfl; all_goals (intro hh; first | replace hh := of_decide_eq_true hh | replace hh := of_decide_eq_false hh | skip))
      | (apply EvO.gsplit; exact rfl; exact rfl; exact rfl; all_goals (intro hh; first | replace hh := of_decide_eq_true hh | replace hh := of_decide_eq_false hh | skip))
      | (apply EvO.move; exact rfl; exact rfl)
      | (apply EvO.assign; exact rfl; exact rfl)
      | refine Ev.ret ?_)
    all_goals first | (exfalso; omega) | (rw [dec_f (fun e => h e.1)]; rfl)
set_option maxRecDepth 20000 in
set_option maxHeartbeats 1000000 in
theorem s_CostsOk (d : Dev) (xs : List Int) : CallSpec Try.prog 13 [.agg (encDev d), .one (.ro (ints xs))] (.t (.bool (dec (d.costsOk xs)))) := by
  refine spec1 (fun _ => []) Try.func13 (by kernel_rfl) rfl Try.ntmps13 rfl Try.results13 rfl ?_
  intro B0 w0 S0
  have e1 := ints_len xs
  refine Ev.len_le 1 rfl (fun e3 => ?_)
  by_cases h : d.ok
  · by_cases hl : (xs.length : Int) = d.rn
    · repeat' (first
        | refine Ev.seq ?_
        | refine Ev.block ?_
        | refine Ev.region ?_
        | refine Ev.skip ?_
        | refine Ev.exit ?_
        | refine EvO.nil ?_
        | (apply EvO.moveT; exact rfl; exact rfl; exact rfl)
        | (apply EvO.moveAl; exact rfl; exact rfl; exact rfl)
        | (apply EvO.moveAgg; exact rfl; exact rfl; exact rfl)
        | (apply EvO.assignOwn; exact rfl; exact rfl; exact rfl; exact rfl; exact rfl)
        | (apply EvO.assignT; exact rfl; exact rfl; exact rfl)
        | (apply EvO.assignAl; exact rfl; exact rfl; exact rfl)
        | (apply EvO.assignAgg; exact rfl; exact rfl; exact rfl)
        | (apply EvO.add; exact rfl; exact rfl; omega; exact rfl; exact rfl)
        | (apply EvO.neq; exact rfl; exact rfl; exact rfl; exact rfl)
        | (apply EvO.neqBs; exact rfl; exact rfl; kernel_rfl; exact rfl; exact rfl)
        | (apply EvO.neqB; exact rfl; exact rfl; kernel_rfl; exact rfl; exact rfl)
        | (apply EvO.lss; exact rfl; exact rfl; exact rfl; exact rfl)
        | (apply EvO.notP; exact rfl; exact rfl; exact rfl)
        | (apply EvO.not; exact rfl; exact rfl; exact rfl)
        | (apply EvO.pickT; exact rfl; exact rfl; exact rfl; exact rfl)
        | (apply EvO.pickF; exact rfl; exact rfl; exact rfl; exact rfl)
        | (apply EvO.skip; exact rfl; exact rfl; exact rfl)
        | (apply EvO.loadI (t := 3); exact rfl; exact rfl; omega; omega; kernel_rfl; exact rfl; exact rfl)
        | (apply EvO.loadOwn (t := 3); exact rfl; exact rfl; exact rfl; exact rfl; exact rfl; kernel_rfl; exact rfl; exact rfl)
        | (apply EvO.loadBoxAgg (t := 28); exact rfl; exact rfl; exact rfl; kernel_rfl; exact rfl; exact rfl; exact rfl)
        | (apply EvO.loadBox (t := 3); exact rfl; exact rfl; exact rfl; exact rfl; kernel_rfl; exact rfl; exact rfl)
        | (apply EvO.loadRo (t := 3); exact rfl; exact rfl; kernel_rfl; exact rfl; exact rfl)
        | (apply EvO.loadRoAll (t := 28); exact rfl; kernel_rfl; exact rfl; exact rfl; exact rfl)
        | (apply EvO.boxAgg; exact rfl; kernel_rfl; exact rfl; exact rfl; exact rfl)
        | (apply EvO.idxRoI; exact rfl; exact rfl; omega; omega; ((with_reducible first | exact es_26)); exact rfl; exact rfl)
        | (apply EvO.idxRo; exact rfl; exact rfl; omega; (first | assumption | exact rfl | exact recs_get (by omega) (by omega)); exact rfl; ((with_reducible first | exact es_26)); exact rfl; exact rfl)
        | (apply EvO.idxOwn; exact rfl; exact rfl; exact rfl; omega; (first | omega | (simp <;> omega)); ((with_reducible first | exact el_26)); exact rfl; exact rfl)
        | (apply EvO.lenRo; exact rfl; kernel_rfl; exact rfl; exact rfl)
        | (apply EvO.lenOwn; exact rfl; exact rfl; kernel_rfl; exact rfl; exact rfl)
        | (apply EvO.lenNil; exact rfl; kernel_rfl; exact rfl; exact rfl)
        | (apply EvO.call; exact (CallSpec.bT (s_DeviceOk _) h); exact rfl; exact rfl; exact rfl)
        | (apply EvO.call; exact (s_RouteNodes _ h); exact rfl; exact rfl; exact rfl)
        | (apply Ev.condT; exact rfl)
        | (apply Ev.condF; exact rfl)
        | (apply Ev.cond; exact rfl; all_goals (intro hh; first | replace hh := of_decide_eq_true hh | replace hh := of_decide_eq_false hh | skip))
        | (apply EvO.gsplit; exact rfl; exact rfl; exact rfl; all_goals (intro hh; first | replace hh := of_decide_eq_true hh | replace hh := of_decide_eq_false hh | skip))
        | (apply EvO.move; exact rfl; exact rfl)
        | (apply EvO.assign; exact rfl; exact rfl)
        | refine Ev.ret ?_)
      all_goals first | (exfalso; omega) | skip
      refine Ev.loop (fun n fr => ∃ k : Int, fr 1 = .t (.ro (ints xs)) ∧ fr 5 = .t (.int k) ∧ 0 ≤ k ∧ k + n = xs.length ∧ ∀ j : Int, 0 ≤ j → j < k → 1 ≤ geti xs j ∧ geti xs j ≤ 100000) xs.length ⟨0, rfl, rfl, by omega, by omega, by omega⟩ ?_
      rintro n fr ⟨k, h0, h5, hk, hn, hp⟩
      refine Ev.know 1 h0 (Ev.know 5 h5 ?_)
      repeat' (first
        | refine Ev.seq ?_
        | refine Ev.block ?_
        | refine Ev.region ?_
        | refine Ev.skip ?_
        | refine Ev.exit ?_
        | refine EvO.nil ?_
        | (apply EvO.moveT; exact rfl; exact rfl; exact rfl)
        | (apply EvO.moveAl; exact rfl; exact rfl; exact rfl)
        | (apply EvO.moveAgg; exact rfl; exact rfl; exact rfl)
        | (apply EvO.assignOwn; exact rfl; exact rfl; exact rfl; exact rfl; exact rfl)
        | (apply EvO.assignT; exact rfl; exact rfl; exact rfl)
        | (apply EvO.assignAl; exact rfl; exact rfl; exact rfl)
        | (apply EvO.assignAgg; exact rfl; exact rfl; exact rfl)
        | (apply EvO.add; exact rfl; exact rfl; omega; exact rfl; exact rfl)
        | (apply EvO.neq; exact rfl; exact rfl; exact rfl; exact rfl)
        | (apply EvO.neqBs; exact rfl; exact rfl; kernel_rfl; exact rfl; exact rfl)
        | (apply EvO.neqB; exact rfl; exact rfl; kernel_rfl; exact rfl; exact rfl)
        | (apply EvO.lss; exact rfl; exact rfl; exact rfl; exact rfl)
        | (apply EvO.notP; exact rfl; exact rfl; exact rfl)
        | (apply EvO.not; exact rfl; exact rfl; exact rfl)
        | (apply EvO.pickT; exact rfl; exact rfl; exact rfl; exact rfl)
        | (apply EvO.pickF; exact rfl; exact rfl; exact rfl; exact rfl)
        | (apply EvO.skip; exact rfl; exact rfl; exact rfl)
        | (apply EvO.loadI (t := 3); exact rfl; exact rfl; omega; omega; kernel_rfl; exact rfl; exact rfl)
        | (apply EvO.loadOwn (t := 3); exact rfl; exact rfl; exact rfl; exact rfl; exact rfl; kernel_rfl; exact rfl; exact rfl)
        | (apply EvO.loadBoxAgg (t := 28); exact rfl; exact rfl; exact rfl; kernel_rfl; exact rfl; exact rfl; exact rfl)
        | (apply EvO.loadBox (t := 3); exact rfl; exact rfl; exact rfl; exact rfl; kernel_rfl; exact rfl; exact rfl)
        | (apply EvO.loadRo (t := 3); exact rfl; exact rfl; kernel_rfl; exact rfl; exact rfl)
        | (apply EvO.loadRoAll (t := 28); exact rfl; kernel_rfl; exact rfl; exact rfl; exact rfl)
        | (apply EvO.boxAgg; exact rfl; kernel_rfl; exact rfl; exact rfl; exact rfl)
        | (apply EvO.idxRoI; exact rfl; exact rfl; omega; omega; ((with_reducible first | exact es_26)); exact rfl; exact rfl)
        | (apply EvO.idxRo; exact rfl; exact rfl; omega; (first | assumption | exact rfl | exact recs_get (by omega) (by omega)); exact rfl; ((with_reducible first | exact es_26)); exact rfl; exact rfl)
        | (apply EvO.idxOwn; exact rfl; exact rfl; exact rfl; omega; (first | omega | (simp <;> omega)); ((with_reducible first | exact el_26)); exact rfl; exact rfl)
        | (apply EvO.lenRo; exact rfl; kernel_rfl; exact rfl; exact rfl)
        | (apply EvO.lenOwn; exact rfl; exact rfl; kernel_rfl; exact rfl; exact rfl)
        | (apply EvO.lenNil; exact rfl; kernel_rfl; exact rfl; exact rfl)
        | (apply EvO.call; exact (s_l01In _ _ _); exact rfl; exact rfl; exact rfl)
        | (apply Ev.condT; exact rfl)
        | (apply Ev.condF; exact rfl)
        | (apply Ev.cond; exact rfl; all_goals (intro hh; first | replace hh := of_decide_eq_true hh | replace hh := of_decide_eq_false hh | skip))
        | (apply EvO.gsplit; exact rfl; exact rfl; exact rfl; all_goals (intro hh; first | replace hh := of_decide_eq_true hh | replace hh := of_decide_eq_false hh | skip))
        | (apply EvO.move; exact rfl; exact rfl)
        | (apply EvO.assign; exact rfl; exact rfl)
        | refine Ev.ret ?_)
      · rw [dec_f (fun e => absurd (e.2.2 k hk (by omega)) ‹¬ (1 ≤ geti xs k ∧ geti xs k ≤ 100000)›)]; rfl
      · refine ⟨n - 1, by omega, k + 1, rfl, rfl, by omega, by omega, fun j j0 j1 => ?_⟩
        by_cases hj : j = k
        · subst hj; exact Decidable.of_not_not ‹_›
        · exact hp j j0 (by omega)
      · rw [dec_t ⟨h, hl, fun j j0 j1 => hp j j0 (by omega)⟩]; rfl
    · repeat' (first
        | refine Ev.seq ?_
        | refine Ev.block ?_
        | refine Ev.region ?_
        | refine Ev.skip ?_
        | refine Ev.exit ?_
        | refine EvO.nil ?_
        | (apply EvO.moveT; exact rfl; exact rfl; exact rfl)
        | (apply EvO.moveAl; exact rfl; exact rfl; exact rfl)
        | (apply EvO.moveAgg; exact rfl; exact rfl; exact rfl)
        | (apply EvO.assignOwn; exact rfl; exact rfl; exact rfl; exact rfl; exact rfl)
        | (apply EvO.assignT; exact rfl; exact rfl; exact rfl)
        | (apply EvO.assignAl; exact rfl; exact rfl; exact rfl)
        | (apply EvO.assignAgg; exact rfl; exact rfl; exact rfl)
        | (apply EvO.add; exact rfl; exact rfl; omega; exact rfl; exact rfl)
        | (apply EvO.neq; exact rfl; exact rfl; exact rfl; exact rfl)
        | (apply EvO.neqBs; exact rfl; exact rfl; kernel_rfl; exact rfl; exact rfl)
        | (apply EvO.neqB; exact rfl; exact rfl; kernel_rfl; exact rfl; exact rfl)
        | (apply EvO.lss; exact rfl; exact rfl; exact rfl; exact rfl)
        | (apply EvO.notP; exact rfl; exact rfl; exact rfl)
        | (apply EvO.not; exact rfl; exact rfl; exact rfl)
        | (apply EvO.pickT; exact rfl; exact rfl; exact rfl; exact rfl)
        | (apply EvO.pickF; exact rfl; exact rfl; exact rfl; exact rfl)
        | (apply EvO.skip; exact rfl; exact rfl; exact rfl)
        | (apply EvO.loadI (t := 3); exact rfl; exact rfl; omega; omega; kernel_rfl; exact rfl; exact rfl)
        | (apply EvO.loadOwn (t := 3); exact rfl; exact rfl; exact rfl; exact rfl; exact rfl; kernel_rfl; exact rfl; exact rfl)
        | (apply EvO.loadBoxAgg (t := 28); exact rfl; exact rfl; exact rfl; kernel_rfl; exact rfl; exact rfl; exact rfl)
        | (apply EvO.loadBox (t := 3); exact rfl; exact rfl; exact rfl; exact rfl; kernel_rfl; exact rfl; exact rfl)
        | (apply EvO.loadRo (t := 3); exact rfl; exact rfl; kernel_rfl; exact rfl; exact rfl)
        | (apply EvO.loadRoAll (t := 28); exact rfl; kernel_rfl; exact rfl; exact rfl; exact rfl)
        | (apply EvO.boxAgg; exact rfl; kernel_rfl; exact rfl; exact rfl; exact rfl)
        | (apply EvO.idxRoI; exact rfl; exact rfl; omega; omega; ((with_reducible first | exact es_26)); exact rfl; exact rfl)
        | (apply EvO.idxRo; exact rfl; exact rfl; omega; (first | assumption | exact rfl | exact recs_get (by omega) (by omega)); exact rfl; ((with_reducible first | exact es_26)); exact rfl; exact rfl)
        | (apply EvO.idxOwn; exact rfl; exact rfl; exact rfl; omega; (first | omega | (simp <;> omega)); ((with_reducible first | exact el_26)); exact rfl; exact rfl)
        | (apply EvO.lenRo; exact rfl; kernel_rfl; exact rfl; exact rfl)
        | (apply EvO.lenOwn; exact rfl; exact rfl; kernel_rfl; exact rfl; exact rfl)
        | (apply EvO.lenNil; exact rfl; kernel_rfl; exact rfl; exact rfl)
        | (apply EvO.call; exact (CallSpec.bT (s_DeviceOk _) h); exact rfl; exact rfl; exact rfl)
        | (apply EvO.call; exact (s_RouteNodes _ h); exact rfl; exact rfl; exact rfl)
        | (apply Ev.condT; exact rfl)
        | (apply Ev.condF; exact rfl)
        | (apply Ev.cond; exact rfl; all_goals (intro hh; first | replace hh := of_decide_eq_true hh | replace hh := of_decide_eq_false hh | skip))
        | (apply EvO.gsplit; exact rfl; exact rfl; exact rfl; all_goals (intro hh; first | replace hh := of_decide_eq_true hh | replace hh := of_decide_eq_false hh | skip))
        | (apply EvO.move; exact rfl; exact rfl)
        | (apply EvO.assign; exact rfl; exact rfl)
        | refine Ev.ret ?_)
      all_goals first | (exfalso; omega) | (rw [dec_f (fun e => hl e.2.1)]; rfl)
  · repeat' (first
      | refine Ev.seq ?_
      | refine Ev.block ?_
      | refine Ev.region ?_
      | refine Ev.skip ?_
      | refine Ev.exit ?_
      | refine EvO.nil ?_
      | (apply EvO.moveT; exact rfl; exact rfl; exact rfl)
      | (apply EvO.moveAl; exact rfl; exact rfl; exact rfl)
      | (apply EvO.moveAgg; exact rfl; exact rfl; exact rfl)
      | (apply EvO.assignOwn; exact rfl; exact rfl; exact rfl; exact rfl; exact rfl)
      | (apply EvO.assignT; exact rfl; exact rfl; exact rfl)
      | (apply EvO.assignAl; exact rfl; exact rfl; exact rfl)
      | (apply EvO.assignAgg; exact rfl; exact rfl; exact rfl)
      | (apply EvO.add; exact rfl; exact rfl; omega; exact rfl; exact rfl)
      | (apply EvO.neq; exact rfl; exact rfl; exact rfl; exact rfl)
      | (apply EvO.neqBs; exact rfl; exact rfl; kernel_rfl; exact rfl; exact rfl)
      | (apply EvO.neqB; exact rfl; exact rfl; kernel_rfl; exact rfl; exact rfl)
      | (apply EvO.lss; exact rfl; exact rfl; exact rfl; exact rfl)
      | (apply EvO.notP; exact rfl; exact rfl; exact rfl)
      | (apply EvO.not; exact rfl; exact rfl; exact rfl)
      | (apply EvO.pickT; exact rfl; exact rfl; exact rfl; exact rfl)
      | (apply EvO.pickF; exact rfl; exact rfl; exact rfl; exact rfl)
      | (apply EvO.skip; exact rfl; exact rfl; exact rfl)
      | (apply EvO.loadI (t := 3); exact rfl; exact rfl; omega; omega; kernel_rfl; exact rfl; exact rfl)
      | (apply EvO.loadOwn (t := 3); exact rfl; exact rfl; exact rfl; exact rfl; exact rfl; kernel_rfl; exact rfl; exact rfl)
      | (apply EvO.loadBoxAgg (t := 28); exact rfl; exact rfl; exact rfl; kernel_rfl; exact rfl; exact rfl; exact rfl)
      | (apply EvO.loadBox (t := 3); exact rfl; exact rfl; exact rfl; exact rfl; kernel_rfl; exact rfl; exact rfl)
      | (apply EvO.loadRo (t := 3); exact rfl; exact rfl; kernel_rfl; exact rfl; exact rfl)
      | (apply EvO.loadRoAll (t := 28); exact rfl; kernel_rfl; exact rfl; exact rfl; exact rfl)
      | (apply EvO.boxAgg; exact rfl; kernel_rfl; exact rfl; exact rfl; exact rfl)
      | (apply EvO.idxRoI; exact rfl; exact rfl; omega; omega; ((with_reducible first | exact es_26)); exact rfl; exact rfl)
      | (apply EvO.idxRo; exact rfl; exact rfl; omega; (first | assumption | exact rfl | exact recs_get (by omega) (by omega)); exact rfl; ((with_reducible first | exact es_26)); exact rfl; exact rfl)
      | (apply EvO.idxOwn; exact rfl; exact rfl; exact rfl; omega; (first | omega | (simp <;> omega)); ((with_reducible first | exact el_26)); exact rfl; exact rfl)
      | (apply EvO.lenRo; exact rfl; kernel_rfl; exact rfl; exact rfl)
      | (apply EvO.lenOwn; exact rfl; exact rfl; kernel_rfl; exact rfl; exact rfl)
      | (apply EvO.lenNil; exact rfl; kernel_rfl; exact rfl; exact rfl)
      | (apply EvO.call; exact (CallSpec.bF (s_DeviceOk _) h); exact rfl; exact rfl; exact rfl)
      | (apply Ev.condT; exact rfl)
      | (apply Ev.condF; exact rfl)
      | (apply Ev.cond; exact rfl; all_goals (intro hh; first | replace hh := of_decide_eq_true hh | replace hh := of_decide_eq_false hh | skip))
      | (apply EvO.gsplit; exact rfl; exact rfl; exact rfl; all_goals (intro hh; first | replace hh := of_decide_eq_true hh | replace hh := of_decide_eq_false hh | skip))
      | (apply EvO.move; exact rfl; exact rfl)
      | (apply EvO.assign; exact rfl; exact rfl)
      | refine Ev.ret ?_)
    all_goals first | (exfalso; omega) | (rw [dec_f (fun e => h e.1)]; rfl)
end Go.Proofs.Ytphdildkhaeimaa
