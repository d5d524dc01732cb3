/-
  The laws of the first rows say true: both programs compute the same.
-/
import Derived.Test.YtphdildkhaeimaaDev
import Derived.Test.YtphdildkhaeimaaRows
import Derived.Test.YtphdildkhaeimaaEvJ
namespace Go.Proofs.Ytphdildkhaeimaa
open Go Go.Ev Go.Proofs Go.ChangeShapes Go.WideShapes Go.ChangeAt Go.RowKit
set_option linter.unusedVariables false

theorem dev_of {t : TypeId} {r : R} (h : HasR Try.prog t r) (ht : intsT Try.prog t 4 = true) : ∃ d : Dev, r = .agg (encDev d) ∧ i64 d.W ∧ i64 d.H ∧ i64 d.T ∧ i64 d.R := by
  obtain ⟨zs, rfl, hl, hb⟩ := h.ints ht
  match zs, hl with
  | [a, b, c, e], _ => exact ⟨⟨a, b, c, e⟩, rfl, hb a (by simp), hb b (by simp), hb c (by simp), hb e (by simp)⟩

def nextRandom (s : Int) : Int := w64 ((BitVec.ofInt 64 (w64 (w64 (1103515245 * w64 ((BitVec.ofInt 64 s &&& BitVec.ofInt 64 2147483647).toNat : Int)) + 12345)) &&& BitVec.ofInt 64 2147483647).toNat : Int)
set_option maxRecDepth 20000 in
set_option maxHeartbeats 1000000 in
theorem i_NextRandom (s : Int) : CallSpec Try.prog 10 [.one (.int s)] (.t (.int (nextRandom s))) := by
  refine spec1 (fun _ => []) Try.func10 (by kernel_rfl) rfl Try.ntmps10 rfl Try.results10 rfl ?_
  intro B0 w0 S0
  repeat' (first
    | refine Ev.seq ?_
    | refine Ev.region ?_
    | refine Ev.skip ?_
    | refine EvO.nil ?_
    | (apply EvO.moveT; exact rfl; exact rfl; exact rfl)
    | (apply EvO.moveAl; exact rfl; exact rfl; exact rfl)
    | (apply EvO.moveAgg; exact rfl; exact rfl; exact rfl)
    | (apply EvO.assignOwn; exact rfl; exact rfl; exact rfl; exact rfl; exact rfl)
    | (apply EvO.assignT; exact rfl; exact rfl; exact rfl)
    | (apply EvO.assignAl; exact rfl; exact rfl; exact rfl)
    | (apply EvO.assignAgg; exact rfl; exact rfl; exact rfl)
    | (apply EvO.addW; exact rfl; exact rfl; exact rfl; exact rfl)
    | (apply EvO.mulW; exact rfl; exact rfl; exact rfl; exact rfl)
    | (apply EvO.andW; exact rfl; exact rfl; exact rfl; exact rfl)
    | (apply EvO.move; exact rfl; exact rfl)
    | (apply EvO.assign; exact rfl; exact rfl)
    | refine Ev.ret ?_)
  all_goals rfl
set_option maxRecDepth 20000 in
set_option maxHeartbeats 1000000 in
theorem s_NextRandom (s : Int) : CallSpec Try.prog 9 [.one (.int s)] (.t (.int (nextRandom s))) := by
  refine spec1 (fun _ => []) Try.func9 (by kernel_rfl) rfl Try.ntmps9 rfl Try.results9 rfl ?_
  intro B0 w0 S0
  repeat' (first
    | refine Ev.seq ?_
    | refine Ev.region ?_
    | refine Ev.skip ?_
    | refine EvO.nil ?_
    | (apply EvO.moveT; exact rfl; exact rfl; exact rfl)
    | (apply EvO.moveAl; exact rfl; exact rfl; exact rfl)
    | (apply EvO.moveAgg; exact rfl; exact rfl; exact rfl)
    | (apply EvO.assignOwn; exact rfl; exact rfl; exact rfl; exact rfl; exact rfl)
    | (apply EvO.assignT; exact rfl; exact rfl; exact rfl)
    | (apply EvO.assignAl; exact rfl; exact rfl; exact rfl)
    | (apply EvO.assignAgg; exact rfl; exact rfl; exact rfl)
    | (apply EvO.addW; exact rfl; exact rfl; exact rfl; exact rfl)
    | (apply EvO.mulW; exact rfl; exact rfl; exact rfl; exact rfl)
    | (apply EvO.andW; exact rfl; exact rfl; exact rfl; exact rfl)
    | (apply EvO.move; exact rfl; exact rfl)
    | (apply EvO.assign; exact rfl; exact rfl)
    | refine Ev.ret ?_)
  all_goals rfl
set_option maxRecDepth 20000 in
set_option maxHeartbeats 1000000 in
theorem l_toDevice (d : Dev) : CallSpec Try.prog 14 [.agg (encDev d)] (.agg (encDev d)) := by
  refine spec1box (fun _ => []) Try.func14 (by kernel_rfl) rfl Try.ntmps14 rfl Try.results14 (by kernel_rfl) rfl ?_
  intro B0 w0 S0
  repeat' (first
    | refine Ev.seq ?_
    | refine Ev.region ?_
    | refine Ev.skip ?_
    | refine EvO.nil ?_
    | (apply EvO.loadOwn; exact rfl; exact rfl; exact rfl; exact rfl; exact rfl; kernel_rfl; exact rfl; exact rfl)
    | (apply EvO.loadBoxAgg; exact rfl; exact rfl; exact rfl; kernel_rfl; exact rfl; exact rfl; exact rfl)
    | (apply EvO.loadBox; exact rfl; exact rfl; exact rfl; exact rfl; kernel_rfl; exact rfl; exact rfl)
    | (apply EvO.loadRo; exact rfl; exact rfl; kernel_rfl; exact rfl; exact rfl)
    | (apply EvO.fldBox; exact rfl; exact rfl; ((with_reducible first | exact fl_25_0 | exact fl_25_1 | exact fl_25_2 | exact fl_25_3 | exact fl_28_0 | exact fl_28_1 | exact fl_28_2 | exact fl_28_3)); exact rfl; exact rfl; exact rfl)
    | (apply EvO.fldAddr; exact rfl; ((with_reducible first | exact fl_25_0 | exact fl_25_1 | exact fl_25_2 | exact fl_25_3 | exact fl_28_0 | exact fl_28_1 | exact fl_28_2 | exact fl_28_3)); exact rfl; exact rfl)
    | (apply EvO.fldRo; exact rfl; ((with_reducible first | exact fl_25_0 | exact fl_25_1 | exact fl_25_2 | exact fl_25_3 | exact fl_28_0 | exact fl_28_1 | exact fl_28_2 | exact fl_28_3)); exact rfl; exact rfl)
    | (apply EvO.boxAgg; exact rfl; kernel_rfl; exact rfl; exact rfl; exact rfl)
    | (apply EvO.store; exact rfl; exact rfl; exact rfl; exact rfl; exact rfl; kernel_rfl; exact rfl; kernel_rfl)
    | (apply EvO.storeBoxAgg; exact rfl; exact rfl; exact rfl; exact rfl; kernel_rfl; exact rfl; exact rfl; kernel_rfl)
    | (apply EvO.alloc; ((with_reducible first | exact zr_28)); kernel_rfl; exact rfl; exact rfl; exact rfl)
    | refine Ev.ret ?_)
  all_goals exact ⟨_, rfl⟩
set_option maxRecDepth 20000 in
set_option maxHeartbeats 1000000 in
theorem l_FnExactNextRandom (s : Int) : CallSpec Try.prog 3 [.one (.int s)] (.t (.bool true)) := by
  refine spec1 (fun _ => []) Try.func3 (by kernel_rfl) rfl Try.ntmps3 rfl Try.results3 rfl ?_
  intro B0 w0 S0
  repeat' (first
    | refine Ev.seq ?_
    | refine Ev.region ?_
    | refine Ev.skip ?_
    | refine EvO.nil ?_
    | (apply EvO.moveT; exact rfl; exact rfl; exact rfl)
    | (apply EvO.moveAl; exact rfl; exact rfl; exact rfl)
    | (apply EvO.moveAgg; exact rfl; exact rfl; exact rfl)
    | (apply EvO.assignOwn; exact rfl; exact rfl; exact rfl; exact rfl; exact rfl)
    | (apply EvO.assignT; exact rfl; exact rfl; exact rfl)
    | (apply EvO.assignAl; exact rfl; exact rfl; exact rfl)
    | (apply EvO.assignAgg; exact rfl; exact rfl; exact rfl)
    | (apply EvO.neq; exact rfl; exact rfl; exact rfl; exact rfl)
    | (apply EvO.call; exact (s_NextRandom _); exact rfl; exact rfl; exact rfl)
    | (apply EvO.call; exact (i_NextRandom _); exact rfl; exact rfl; exact rfl)
    | (apply Ev.condT; exact rfl)
    | (apply Ev.condF; exact rfl)
    | (apply Ev.cond; exact rfl; all_goals (intro hh; first | replace hh := of_decide_eq_true hh | replace hh := of_decide_eq_false hh | skip))
    | (apply EvO.move; exact rfl; exact rfl)
    | (apply EvO.assign; exact rfl; exact rfl)
    | refine Ev.ret ?_)
  all_goals first | (exfalso; omega) | rfl
set_option maxRecDepth 20000 in
set_option maxHeartbeats 1000000 in
theorem l_FnExactBlockTile (s : Int) : CallSpec Try.prog 4 [.one (.int s)] (.t (.bool true)) := by
  refine spec1 (fun _ => []) Try.func4 (by kernel_rfl) rfl Try.ntmps4 rfl Try.results4 rfl ?_
  intro B0 w0 S0
  repeat' (first
    | refine Ev.seq ?_
    | refine Ev.region ?_
    | refine Ev.skip ?_
    | refine EvO.nil ?_
    | (apply EvO.moveT; exact rfl; exact rfl; exact rfl)
    | (apply EvO.moveAl; exact rfl; exact rfl; exact rfl)
    | (apply EvO.moveAgg; exact rfl; exact rfl; exact rfl)
    | (apply EvO.assignOwn; exact rfl; exact rfl; exact rfl; exact rfl; exact rfl)
    | (apply EvO.assignT; exact rfl; exact rfl; exact rfl)
    | (apply EvO.assignAl; exact rfl; exact rfl; exact rfl)
    | (apply EvO.assignAgg; exact rfl; exact rfl; exact rfl)
    | (apply EvO.neq; exact rfl; exact rfl; exact rfl; exact rfl)
    | (apply EvO.call; exact (s_BlockTile _); exact rfl; exact rfl; exact rfl)
    | (apply EvO.call; exact (i_BlockTile _); exact rfl; exact rfl; exact rfl)
    | (apply Ev.condT; exact rfl)
    | (apply Ev.condF; exact rfl)
    | (apply Ev.cond; exact rfl; all_goals (intro hh; first | replace hh := of_decide_eq_true hh | replace hh := of_decide_eq_false hh | skip))
    | (apply EvO.move; exact rfl; exact rfl)
    | (apply EvO.assign; exact rfl; exact rfl)
    | refine Ev.ret ?_)
  all_goals first | (exfalso; omega) | rfl
set_option maxRecDepth 20000 in
set_option maxHeartbeats 1000000 in
theorem l_FnExactInPin (d : Dev) (t p : Int) : CallSpec Try.prog 7 [.agg (encDev d), .one (.int t), .one (.int p)] (.t (.bool true)) := by
  refine spec1 (fun _ => []) Try.func7 (by kernel_rfl) rfl Try.ntmps7 rfl Try.results7 rfl ?_
  intro B0 w0 S0
  repeat' (first
    | refine Ev.seq ?_
    | refine Ev.region ?_
    | refine Ev.skip ?_
    | refine EvO.nil ?_
    | (apply EvO.moveT; exact rfl; exact rfl; exact rfl)
    | (apply EvO.moveAl; exact rfl; exact rfl; exact rfl)
    | (apply EvO.moveAgg; exact rfl; exact rfl; exact rfl)
    | (apply EvO.assignOwn; exact rfl; exact rfl; exact rfl; exact rfl; exact rfl)
    | (apply EvO.assignT; exact rfl; exact rfl; exact rfl)
    | (apply EvO.assignAl; exact rfl; exact rfl; exact rfl)
    | (apply EvO.assignAgg; exact rfl; exact rfl; exact rfl)
    | (apply EvO.neq; exact rfl; exact rfl; exact rfl; exact rfl)
    | (apply EvO.loadOwn; exact rfl; exact rfl; exact rfl; exact rfl; exact rfl; kernel_rfl; exact rfl; exact rfl)
    | (apply EvO.loadBoxAgg; exact rfl; exact rfl; exact rfl; kernel_rfl; exact rfl; exact rfl; exact rfl)
    | (apply EvO.loadBox; exact rfl; exact rfl; exact rfl; exact rfl; kernel_rfl; exact rfl; exact rfl)
    | (apply EvO.loadRo; exact rfl; exact rfl; kernel_rfl; exact rfl; exact rfl)
    | (apply EvO.boxAgg; exact rfl; kernel_rfl; exact rfl; exact rfl; exact rfl)
    | (apply EvO.call; exact (l_toDevice _); exact rfl; exact rfl; exact rfl)
    | (apply EvO.call; exact (s_InPin _ _ _); exact rfl; exact rfl; exact rfl)
    | (apply EvO.call; exact (i_InPin _ _ _); exact rfl; exact rfl; exact rfl)
    | (apply Ev.condT; exact rfl)
    | (apply Ev.condF; exact rfl)
    | (apply Ev.cond; exact rfl; all_goals (intro hh; first | replace hh := of_decide_eq_true hh | replace hh := of_decide_eq_false hh | skip))
    | (apply EvO.move; exact rfl; exact rfl)
    | (apply EvO.assign; exact rfl; exact rfl)
    | refine Ev.ret ?_)
  all_goals first | (exfalso; omega) | rfl
set_option maxRecDepth 20000 in
set_option maxHeartbeats 1000000 in
theorem l_FnExactWireNode (d : Dev) (t r k : Int) : CallSpec Try.prog 6 [.agg (encDev d), .one (.int t), .one (.int r), .one (.int k)] (.t (.bool true)) := by
  refine spec1 (fun _ => []) Try.func6 (by kernel_rfl) rfl Try.ntmps6 rfl Try.results6 rfl ?_
  intro B0 w0 S0
  repeat' (first
    | refine Ev.seq ?_
    | refine Ev.region ?_
    | refine Ev.skip ?_
    | refine EvO.nil ?_
    | (apply EvO.moveT; exact rfl; exact rfl; exact rfl)
    | (apply EvO.moveAl; exact rfl; exact rfl; exact rfl)
    | (apply EvO.moveAgg; exact rfl; exact rfl; exact rfl)
    | (apply EvO.assignOwn; exact rfl; exact rfl; exact rfl; exact rfl; exact rfl)
    | (apply EvO.assignT; exact rfl; exact rfl; exact rfl)
    | (apply EvO.assignAl; exact rfl; exact rfl; exact rfl)
    | (apply EvO.assignAgg; exact rfl; exact rfl; exact rfl)
    | (apply EvO.neq; exact rfl; exact rfl; exact rfl; exact rfl)
    | (apply EvO.loadOwn; exact rfl; exact rfl; exact rfl; exact rfl; exact rfl; kernel_rfl; exact rfl; exact rfl)
    | (apply EvO.loadBoxAgg; exact rfl; exact rfl; exact rfl; kernel_rfl; exact rfl; exact rfl; exact rfl)
    | (apply EvO.loadBox; exact rfl; exact rfl; exact rfl; exact rfl; kernel_rfl; exact rfl; exact rfl)
    | (apply EvO.loadRo; exact rfl; exact rfl; kernel_rfl; exact rfl; exact rfl)
    | (apply EvO.boxAgg; exact rfl; kernel_rfl; exact rfl; exact rfl; exact rfl)
    | (apply EvO.call; exact (l_toDevice _); exact rfl; exact rfl; exact rfl)
    | (apply EvO.call; exact (s_WireNode _ _ _ _); exact rfl; exact rfl; exact rfl)
    | (apply EvO.call; exact (i_WireNode _ _ _ _); exact rfl; exact rfl; exact rfl)
    | (apply Ev.condT; exact rfl)
    | (apply Ev.condF; exact rfl)
    | (apply Ev.cond; exact rfl; all_goals (intro hh; first | replace hh := of_decide_eq_true hh | replace hh := of_decide_eq_false hh | skip))
    | (apply EvO.move; exact rfl; exact rfl)
    | (apply EvO.assign; exact rfl; exact rfl)
    | refine Ev.ret ?_)
  all_goals first | (exfalso; omega) | rfl
theorem lw_FnExactNextRandom (rs : List R) (h : HasAll Try.prog [3] rs) : CallSpec Try.prog 3 rs (.t (.bool true)) := by
  obtain ⟨r0, rs, rfl, h0, h⟩ := h.cons
  obtain rfl := h.nil
  obtain ⟨a0, rfl, b0⟩ := h0.int (by kernel_rfl)
  exact l_FnExactNextRandom a0
namespace fnExactNextRandom
theorem own : ownKnob Try.prog.godebug = none := by kernel_rfl
set_option maxRecDepth 100000 in
theorem lifted (os : Os) (started : os.Started) (H : Type) (enc : TypeId × Value → H) :
    ReturnsInHanded {} Try.checked os 3 .any (Rows.fnExactNextRandomSpec.pre6 enc Try.prog Try.f3 Rows.fnExactNextRandomRow.domain false) (Rows.fnExactNextRandomSpec.post enc Try.prog Try.f3 false true false false) := by
  refine returnsInHanded_of_change (C := Try.checked) own started (by kernel_rfl) Try.func3
    (ChangeSpec.witness6 (enc := enc) (C := Try.checked) false ⟨#[], #[.int .i64 0], []⟩ 8 (by kernel_rfl) (by kernel_rfl) (by kernel_rfl) (by kernel_rfl)) ?_
  intro W base args ds gs before hval hW _ _
  have hsz : Try.f3.params.size = 1 := by kernel_rfl
  exact law_post (P := Try.prog) (fn := Try.f3) (tb := 4) (by kernel_rfl) (by kernel_rfl) (by kernel_rfl) rfl Try.underlying4 rfl
    (fun ds h => by rw [hsz] at h; match ds, h with | [_], _ => rfl) (fun rs h => lw_FnExactNextRandom rs (by rw [Try.params3] at h; exact h)) W base args ds gs before hval hW
theorem over : Rows.fnExactNextRandomRow.holds Try.pinned (OpenSpec.ofChange Rows.fnExactNextRandomSpec) :=
  OpenClaim.holds_of_wide 3 Try.f3 rfl rfl rfl rfl rfl rfl rfl ⟨rfl, rfl, rfl, rfl, rfl⟩ rfl rfl rfl rfl rfl (by kernel_rfl) Try.func3 (by kernel_rfl)
    (of_decide_eq_true (by kernel_rfl)) (by unfold Func.isWrapper; first | (rw [if_pos (by decide +kernel)]; kernel_rfl) | (rw [if_neg (by decide +kernel)]; exact ⟨rfl, rfl⟩))
    (fun os started H enc _ => lifted os started H enc)
/-- The statement. -/
theorem proved : Rows.FnExactNextRandomSaid := over
end fnExactNextRandom
theorem lw_FnExactBlockTile (rs : List R) (h : HasAll Try.prog [3] rs) : CallSpec Try.prog 4 rs (.t (.bool true)) := by
  obtain ⟨r0, rs, rfl, h0, h⟩ := h.cons
  obtain rfl := h.nil
  obtain ⟨a0, rfl, b0⟩ := h0.int (by kernel_rfl)
  exact l_FnExactBlockTile a0
namespace fnExactBlockTile
theorem own : ownKnob Try.prog.godebug = none := by kernel_rfl
set_option maxRecDepth 100000 in
theorem lifted (os : Os) (started : os.Started) (H : Type) (enc : TypeId × Value → H) :
    ReturnsInHanded {} Try.checked os 4 .any (Rows.fnExactBlockTileSpec.pre6 enc Try.prog Try.f4 Rows.fnExactBlockTileRow.domain false) (Rows.fnExactBlockTileSpec.post enc Try.prog Try.f4 false true false false) := by
  refine returnsInHanded_of_change (C := Try.checked) own started (by kernel_rfl) Try.func4
    (ChangeSpec.witness6 (enc := enc) (C := Try.checked) false ⟨#[], #[.int .i64 0], []⟩ 8 (by kernel_rfl) (by kernel_rfl) (by kernel_rfl) (by kernel_rfl)) ?_
  intro W base args ds gs before hval hW _ _
  have hsz : Try.f4.params.size = 1 := by kernel_rfl
  exact law_post (P := Try.prog) (fn := Try.f4) (tb := 4) (by kernel_rfl) (by kernel_rfl) (by kernel_rfl) rfl Try.underlying4 rfl
    (fun ds h => by rw [hsz] at h; match ds, h with | [_], _ => rfl) (fun rs h => lw_FnExactBlockTile rs (by rw [Try.params4] at h; exact h)) W base args ds gs before hval hW
theorem over : Rows.fnExactBlockTileRow.holds Try.pinned (OpenSpec.ofChange Rows.fnExactBlockTileSpec) :=
  OpenClaim.holds_of_wide 4 Try.f4 rfl rfl rfl rfl rfl rfl rfl ⟨rfl, rfl, rfl, rfl, rfl⟩ rfl rfl rfl rfl rfl (by kernel_rfl) Try.func4 (by kernel_rfl)
    (of_decide_eq_true (by kernel_rfl)) (by unfold Func.isWrapper; first | (rw [if_pos (by decide +kernel)]; kernel_rfl) | (rw [if_neg (by decide +kernel)]; exact ⟨rfl, rfl⟩))
    (fun os started H enc _ => lifted os started H enc)
/-- The statement. -/
theorem proved : Rows.FnExactBlockTileSaid := over
end fnExactBlockTile
theorem lw_FnExactInPin (rs : List R) (h : HasAll Try.prog [25, 3, 3] rs) : CallSpec Try.prog 7 rs (.t (.bool true)) := by
  obtain ⟨r0, rs, rfl, h0, h⟩ := h.cons
  obtain ⟨r1, rs, rfl, h1, h⟩ := h.cons
  obtain ⟨r2, rs, rfl, h2, h⟩ := h.cons
  obtain rfl := h.nil
  obtain ⟨a0, rfl, b0⟩ := dev_of h0 (by kernel_rfl)
  obtain ⟨a1, rfl, b1⟩ := h1.int (by kernel_rfl)
  obtain ⟨a2, rfl, b2⟩ := h2.int (by kernel_rfl)
  exact l_FnExactInPin a0 a1 a2
namespace fnExactInPin
theorem own : ownKnob Try.prog.godebug = none := by kernel_rfl
set_option maxRecDepth 100000 in
theorem lifted (os : Os) (started : os.Started) (H : Type) (enc : TypeId × Value → H) :
    ReturnsInHanded {} Try.checked os 7 .any (Rows.fnExactInPinSpec.pre6 enc Try.prog Try.f7 Rows.fnExactInPinRow.domain false) (Rows.fnExactInPinSpec.post enc Try.prog Try.f7 false true false false) := by
  refine returnsInHanded_of_change (C := Try.checked) own started (by kernel_rfl) Try.func7
    (ChangeSpec.witness6 (enc := enc) (C := Try.checked) false ⟨#[], #[.agg #[.int .i64 0, .int .i64 0, .int .i64 0, .int .i64 0], .int .i64 0, .int .i64 0], []⟩ 8 (by kernel_rfl) (by kernel_rfl) (by kernel_rfl) (by kernel_rfl)) ?_
  intro W base args ds gs before hval hW _ _
  have hsz : Try.f7.params.size = 3 := by kernel_rfl
  exact law_post (P := Try.prog) (fn := Try.f7) (tb := 4) (by kernel_rfl) (by kernel_rfl) (by kernel_rfl) rfl Try.underlying4 rfl
    (fun ds h => by rw [hsz] at h; match ds, h with | [_, _, _], _ => rfl) (fun rs h => lw_FnExactInPin rs (by rw [Try.params7] at h; exact h)) W base args ds gs before hval hW
theorem over : Rows.fnExactInPinRow.holds Try.pinned (OpenSpec.ofChange Rows.fnExactInPinSpec) :=
  OpenClaim.holds_of_wide 7 Try.f7 rfl rfl rfl rfl rfl rfl rfl ⟨rfl, rfl, rfl, rfl, rfl⟩ rfl rfl rfl rfl rfl (by kernel_rfl) Try.func7 (by kernel_rfl)
    (of_decide_eq_true (by kernel_rfl)) (by unfold Func.isWrapper; first | (rw [if_pos (by decide +kernel)]; kernel_rfl) | (rw [if_neg (by decide +kernel)]; exact ⟨rfl, rfl⟩))
    (fun os started H enc _ => lifted os started H enc)
/-- The statement. -/
theorem proved : Rows.FnExactInPinSaid := over
end fnExactInPin
theorem lw_FnExactWireNode (rs : List R) (h : HasAll Try.prog [25, 3, 3, 3] rs) : CallSpec Try.prog 6 rs (.t (.bool true)) := by
  obtain ⟨r0, rs, rfl, h0, h⟩ := h.cons
  obtain ⟨r1, rs, rfl, h1, h⟩ := h.cons
  obtain ⟨r2, rs, rfl, h2, h⟩ := h.cons
  obtain ⟨r3, rs, rfl, h3, h⟩ := h.cons
  obtain rfl := h.nil
  obtain ⟨a0, rfl, b0⟩ := dev_of h0 (by kernel_rfl)
  obtain ⟨a1, rfl, b1⟩ := h1.int (by kernel_rfl)
  obtain ⟨a2, rfl, b2⟩ := h2.int (by kernel_rfl)
  obtain ⟨a3, rfl, b3⟩ := h3.int (by kernel_rfl)
  exact l_FnExactWireNode a0 a1 a2 a3
namespace fnExactWireNode
theorem own : ownKnob Try.prog.godebug = none := by kernel_rfl
set_option maxRecDepth 100000 in
theorem lifted (os : Os) (started : os.Started) (H : Type) (enc : TypeId × Value → H) :
    ReturnsInHanded {} Try.checked os 6 .any (Rows.fnExactWireNodeSpec.pre6 enc Try.prog Try.f6 Rows.fnExactWireNodeRow.domain false) (Rows.fnExactWireNodeSpec.post enc Try.prog Try.f6 false true false false) := by
  refine returnsInHanded_of_change (C := Try.checked) own started (by kernel_rfl) Try.func6
    (ChangeSpec.witness6 (enc := enc) (C := Try.checked) false ⟨#[], #[.agg #[.int .i64 0, .int .i64 0, .int .i64 0, .int .i64 0], .int .i64 0, .int .i64 0, .int .i64 0], []⟩ 8 (by kernel_rfl) (by kernel_rfl) (by kernel_rfl) (by kernel_rfl)) ?_
  intro W base args ds gs before hval hW _ _
  have hsz : Try.f6.params.size = 4 := by kernel_rfl
  exact law_post (P := Try.prog) (fn := Try.f6) (tb := 4) (by kernel_rfl) (by kernel_rfl) (by kernel_rfl) rfl Try.underlying4 rfl
    (fun ds h => by rw [hsz] at h; match ds, h with | [_, _, _, _], _ => rfl) (fun rs h => lw_FnExactWireNode rs (by rw [Try.params6] at h; exact h)) W base args ds gs before hval hW
theorem over : Rows.fnExactWireNodeRow.holds Try.pinned (OpenSpec.ofChange Rows.fnExactWireNodeSpec) :=
  OpenClaim.holds_of_wide 6 Try.f6 rfl rfl rfl rfl rfl rfl rfl ⟨rfl, rfl, rfl, rfl, rfl⟩ rfl rfl rfl rfl rfl (by kernel_rfl) Try.func6 (by kernel_rfl)
    (of_decide_eq_true (by kernel_rfl)) (by unfold Func.isWrapper; first | (rw [if_pos (by decide +kernel)]; kernel_rfl) | (rw [if_neg (by decide +kernel)]; exact ⟨rfl, rfl⟩))
    (fun os started H enc _ => lifted os started H enc)
/-- The statement. -/
theorem proved : Rows.FnExactWireNodeSaid := over
end fnExactWireNode
end Go.Proofs.Ytphdildkhaeimaa
