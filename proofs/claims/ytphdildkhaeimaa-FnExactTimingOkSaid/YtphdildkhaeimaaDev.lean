/-
  Own work. The device's functions: contracts.
-/
import Derived.Test.YtphdildkhaeimaaFacts
import Derived.Test.YtphdildkhaeimaaEvK
namespace Go.Ev
open Go
theorem CallSpec.bT {P : Program} {f : FuncId} {ds : List R} {p : Prop} {i : Decidable p} (s : CallSpec P f ds (.t (.bool (decide p)))) (h : p) : CallSpec P f ds (.t (.bool true)) := by
  rwa [decide_eq_true h] at s
theorem CallSpec.bF {P : Program} {f : FuncId} {ds : List R} {p : Prop} {i : Decidable p} (s : CallSpec P f ds (.t (.bool (decide p)))) (h : ¬ p) : CallSpec P f ds (.t (.bool false)) := by
  rwa [decide_eq_false h] at s
theorem CallSpec.int {P : Program} {f : FuncId} {ds : List R} {a : Int} (s : CallSpec P f ds (.t (.int a))) {b : Int} (h : a = b) : CallSpec P f ds (.t (.int b)) := h ▸ s
theorem CallSpec.pT {P : Program} {f : FuncId} {ds : List R} {p : Prop} {i : Decidable p} {a b : Int} (s : CallSpec P f ds (.t (.int (if p then a else b)))) (h : p) : CallSpec P f ds (.t (.int a)) := by
  rwa [if_pos h] at s
theorem CallSpec.pF {P : Program} {f : FuncId} {ds : List R} {p : Prop} {i : Decidable p} {a b : Int} (s : CallSpec P f ds (.t (.int (if p then a else b)))) (h : ¬ p) : CallSpec P f ds (.t (.int b)) := by
  rwa [if_neg h] at s
end Go.Ev
namespace Go.Proofs.Ytphdildkhaeimaa
open Go Go.Ev Go.Proofs
set_option linter.unusedVariables false

structure Dev where
  W : Int
  H : Int
  T : Int
  R : Int
def encDev (d : Dev) : List T := [.int d.W, .int d.H, .int d.T, .int d.R]
def Dev.ok (d : Dev) : Prop := (3 ≤ d.W ∧ d.W ≤ 6) ∧ (3 ≤ d.H ∧ d.H ≤ 6) ∧ (1 ≤ d.T ∧ d.T ≤ 4) ∧ (d.R = -1 ∨ (1 ≤ d.R ∧ d.R ≤ d.W - 2))
@[irreducible] def Dev.okDec (d : Dev) : Decidable d.ok := by unfold Dev.ok; infer_instance
instance (d : Dev) : Decidable d.ok := d.okDec
theorem area {W H : Int} (hW : 3 ≤ W ∧ W ≤ 6) (hH : 3 ≤ H ∧ H ≤ 6) : 9 ≤ W * H ∧ W * H ≤ 36 := by
  have h : W = 3 ∨ W = 4 ∨ W = 5 ∨ W = 6 := by omega
  rcases h with rfl | rfl | rfl | rfl <;> omega
def Dev.tileOk (d : Dev) (t : Int) : Prop := d.ok ∧ (0 ≤ t ∧ t ≤ d.W * d.H - 1)
@[irreducible] def Dev.tileOkDec (d : Dev) (t : Int) : Decidable (d.tileOk t) := by unfold Dev.tileOk; infer_instance
instance (d : Dev) (t : Int) : Decidable (d.tileOk t) := d.tileOkDec t
@[irreducible] def Dev.kind (d : Dev) (t : Int) : Int :=
  if t.tmod d.W = 0 ∨ t.tmod d.W = d.W - 1 ∨ t.tdiv d.W = 0 ∨ t.tdiv d.W = d.H - 1 then 0 else if t.tmod d.W = d.R then 2 else 1
@[irreducible] def inPins (k : Int) : Int := if k = 0 then 1 else if k = 1 then 5 else if k = 2 then 4 else 0
@[irreducible] def outPins (k : Int) : Int := if k = 0 then 1 else if k = 2 then 1 else if k = 1 then 2 else 0
@[irreducible] def blockTile (k : Int) : Int := if k = 0 then 0 else if k = 1 then 0 else if k = 2 then 2 else if k = 3 then 1 else -1

theorem mul_bd {a b : Int} (h1 : -2147483648 ≤ a) (h2 : a ≤ 2147483648) (h3 : -2147483648 ≤ b) (h4 : b ≤ 2147483648) : -9223372036854775808 ≤ a * b ∧ a * b ≤ 9223372036854775807 := by
  have h : (a * b).natAbs ≤ 2147483648 * 2147483648 := by
    rw [Int.natAbs_mul]
    exact Nat.mul_le_mul (by omega) (by omega)
  omega
set_option maxRecDepth 20000 in
set_option maxHeartbeats 1000000 in
theorem i_inRange (n lo hi : Int) : CallSpec Try.prog 32 [.one (.int n), .one (.int lo), .one (.int hi)] (.t (.bool (decide (lo ≤ n ∧ n ≤ hi)))) := by
  refine spec1 (fun _ => []) Try.func32 (by kernel_rfl) rfl Try.ntmps32 rfl Try.results32 rfl ?_
  intro B0 w0 S0
  repeat' (first
    | refine Ev.seq ?_
    | refine Ev.region ?_
    | refine Ev.skip ?_
    | refine EvO.nil ?_
    | (apply EvO.moveT; exact rfl; exact rfl; exact rfl)
    | (apply EvO.moveAl; exact rfl; exact rfl; exact rfl)
    | (apply EvO.moveAgg; exact rfl; exact rfl; exact rfl)
    | (apply EvO.assignOwn; exact rfl; exact rfl; exact rfl; exact rfl; exact rfl)
    | (apply EvO.assignT; exact rfl; exact rfl; exact rfl)
    | (apply EvO.assignAl; exact rfl; exact rfl; exact rfl)
    | (apply EvO.assignAgg; exact rfl; exact rfl; exact rfl)
    | (apply EvO.leq; exact rfl; exact rfl; exact rfl; exact rfl)
    | (apply EvO.geq; exact rfl; exact rfl; exact rfl; exact rfl)
    | (apply EvO.pickT; exact rfl; exact rfl; exact rfl; exact rfl)
    | (apply EvO.pickF; exact rfl; exact rfl; exact rfl; exact rfl)
    | (apply EvO.skip; exact rfl; exact rfl; exact rfl)
    | (apply EvO.gsplit; exact rfl; exact rfl; exact rfl; all_goals (intro hh; first | replace hh := of_decide_eq_true hh | replace hh := of_decide_eq_false hh | skip))
    | (apply EvO.move; exact rfl; exact rfl)
    | (apply EvO.assign; exact rfl; exact rfl)
    | refine Ev.ret ?_)
  all_goals (refine pvb ?_; simp [*])
set_option maxRecDepth 20000 in
set_option maxHeartbeats 1000000 in
theorem s_l01In (n lo hi : Int) : CallSpec Try.prog 29 [.one (.int n), .one (.int lo), .one (.int hi)] (.t (.bool (decide (lo ≤ n ∧ n ≤ hi)))) := by
  refine spec1 (fun _ => []) Try.func29 (by kernel_rfl) rfl Try.ntmps29 rfl Try.results29 rfl ?_
  intro B0 w0 S0
  repeat' (first
    | refine Ev.seq ?_
    | refine Ev.region ?_
    | refine Ev.skip ?_
    | refine EvO.nil ?_
    | (apply EvO.moveT; exact rfl; exact rfl; exact rfl)
    | (apply EvO.moveAl; exact rfl; exact rfl; exact rfl)
    | (apply EvO.moveAgg; exact rfl; exact rfl; exact rfl)
    | (apply EvO.assignOwn; exact rfl; exact rfl; exact rfl; exact rfl; exact rfl)
    | (apply EvO.assignT; exact rfl; exact rfl; exact rfl)
    | (apply EvO.assignAl; exact rfl; exact rfl; exact rfl)
    | (apply EvO.assignAgg; exact rfl; exact rfl; exact rfl)
    | (apply EvO.leq; exact rfl; exact rfl; exact rfl; exact rfl)
    | (apply EvO.geq; exact rfl; exact rfl; exact rfl; exact rfl)
    | (apply EvO.pickT; exact rfl; exact rfl; exact rfl; exact rfl)
    | (apply EvO.pickF; exact rfl; exact rfl; exact rfl; exact rfl)
    | (apply EvO.skip; exact rfl; exact rfl; exact rfl)
    | (apply EvO.gsplit; exact rfl; exact rfl; exact rfl; all_goals (intro hh; first | replace hh := of_decide_eq_true hh | replace hh := of_decide_eq_false hh | skip))
    | (apply EvO.move; exact rfl; exact rfl)
    | (apply EvO.assign; exact rfl; exact rfl)
    | refine Ev.ret ?_)
  all_goals (refine pvb ?_; simp [*])
set_option maxRecDepth 20000 in
set_option maxHeartbeats 1000000 in
theorem i_DeviceOk (d : Dev) : CallSpec Try.prog 30 [.agg (encDev d)] (.t (.bool (decide d.ok))) := by
  refine spec1 (fun _ => []) Try.func30 (by kernel_rfl) rfl Try.ntmps30 rfl Try.results30 rfl ?_
  intro B0 w0 S0
  repeat' (first
    | refine Ev.seq ?_
    | refine Ev.region ?_
    | refine Ev.skip ?_
    | refine EvO.nil ?_
    | (apply EvO.moveT; exact rfl; exact rfl; exact rfl)
    | (apply EvO.moveAl; exact rfl; exact rfl; exact rfl)
    | (apply EvO.moveAgg; exact rfl; exact rfl; exact rfl)
    | (apply EvO.assignOwn; exact rfl; exact rfl; exact rfl; exact rfl; exact rfl)
    | (apply EvO.assignT; exact rfl; exact rfl; exact rfl)
    | (apply EvO.assignAl; exact rfl; exact rfl; exact rfl)
    | (apply EvO.assignAgg; exact rfl; exact rfl; exact rfl)
    | (apply EvO.sub; exact rfl; exact rfl; omega; exact rfl; exact rfl)
    | (apply EvO.eql; exact rfl; exact rfl; exact rfl; exact rfl)
    | (apply EvO.eqlB; exact rfl; exact rfl; kernel_rfl; exact rfl; exact rfl)
    | (apply EvO.pickT; exact rfl; exact rfl; exact rfl; exact rfl)
    | (apply EvO.pickF; exact rfl; exact rfl; exact rfl; exact rfl)
    | (apply EvO.skip; exact rfl; exact rfl; exact rfl)
    | (apply EvO.loadI; exact rfl; exact rfl; omega; omega; kernel_rfl; exact rfl; exact rfl)
    | (apply EvO.loadOwn; exact rfl; exact rfl; exact rfl; exact rfl; exact rfl; kernel_rfl; exact rfl; exact rfl)
    | (apply EvO.loadBoxAgg; exact rfl; exact rfl; exact rfl; kernel_rfl; exact rfl; exact rfl; exact rfl)
    | (apply EvO.loadBox; exact rfl; exact rfl; exact rfl; exact rfl; kernel_rfl; exact rfl; exact rfl)
    | (apply EvO.loadRo; exact rfl; exact rfl; kernel_rfl; exact rfl; exact rfl)
    | (apply EvO.fldBox; exact rfl; exact rfl; ((with_reducible first | exact fl_28_0 | exact fl_28_1 | exact fl_28_2 | exact fl_28_3)); exact rfl; exact rfl; exact rfl)
    | (apply EvO.fldAddr; exact rfl; ((with_reducible first | exact fl_28_0 | exact fl_28_1 | exact fl_28_2 | exact fl_28_3)); exact rfl; exact rfl)
    | (apply EvO.fldRo; exact rfl; ((with_reducible first | exact fl_28_0 | exact fl_28_1 | exact fl_28_2 | exact fl_28_3)); exact rfl; exact rfl)
    | (apply EvO.boxAgg; exact rfl; kernel_rfl; exact rfl; exact rfl; exact rfl)
    | (apply EvO.call; exact (i_inRange _ _ _); exact rfl; exact rfl; exact rfl)
    | (apply EvO.gsplit; exact rfl; exact rfl; exact rfl; all_goals (intro hh; first | replace hh := of_decide_eq_true hh | replace hh := of_decide_eq_false hh | skip))
    | (apply EvO.move; exact rfl; exact rfl)
    | (apply EvO.assign; exact rfl; exact rfl)
    | refine Ev.ret ?_)
  all_goals (refine pvb ?_; simp only [Dev.ok]; simp [*])
set_option maxRecDepth 20000 in
set_option maxHeartbeats 1000000 in
theorem s_DeviceOk (d : Dev) : CallSpec Try.prog 27 [.agg (encDev d)] (.t (.bool (decide d.ok))) := by
  refine spec1 (fun _ => []) Try.func27 (by kernel_rfl) rfl Try.ntmps27 rfl Try.results27 rfl ?_
  intro B0 w0 S0
  repeat' (first
    | refine Ev.seq ?_
    | refine Ev.region ?_
    | refine Ev.skip ?_
    | refine EvO.nil ?_
    | (apply EvO.moveT; exact rfl; exact rfl; exact rfl)
    | (apply EvO.moveAl; exact rfl; exact rfl; exact rfl)
    | (apply EvO.moveAgg; exact rfl; exact rfl; exact rfl)
    | (apply EvO.assignOwn; exact rfl; exact rfl; exact rfl; exact rfl; exact rfl)
    | (apply EvO.assignT; exact rfl; exact rfl; exact rfl)
    | (apply EvO.assignAl; exact rfl; exact rfl; exact rfl)
    | (apply EvO.assignAgg; exact rfl; exact rfl; exact rfl)
    | (apply EvO.sub; exact rfl; exact rfl; omega; exact rfl; exact rfl)
    | (apply EvO.eql; exact rfl; exact rfl; exact rfl; exact rfl)
    | (apply EvO.eqlB; exact rfl; exact rfl; kernel_rfl; exact rfl; exact rfl)
    | (apply EvO.pickT; exact rfl; exact rfl; exact rfl; exact rfl)
    | (apply EvO.pickF; exact rfl; exact rfl; exact rfl; exact rfl)
    | (apply EvO.skip; exact rfl; exact rfl; exact rfl)
    | (apply EvO.loadI; exact rfl; exact rfl; omega; omega; kernel_rfl; exact rfl; exact rfl)
    | (apply EvO.loadOwn; exact rfl; exact rfl; exact rfl; exact rfl; exact rfl; kernel_rfl; exact rfl; exact rfl)
    | (apply EvO.loadBoxAgg; exact rfl; exact rfl; exact rfl; kernel_rfl; exact rfl; exact rfl; exact rfl)
    | (apply EvO.loadBox; exact rfl; exact rfl; exact rfl; exact rfl; kernel_rfl; exact rfl; exact rfl)
    | (apply EvO.loadRo; exact rfl; exact rfl; kernel_rfl; exact rfl; exact rfl)
    | (apply EvO.fldBox; exact rfl; exact rfl; ((with_reducible first | exact fl_28_0 | exact fl_28_1 | exact fl_28_2 | exact fl_28_3)); exact rfl; exact rfl; exact rfl)
    | (apply EvO.fldAddr; exact rfl; ((with_reducible first | exact fl_28_0 | exact fl_28_1 | exact fl_28_2 | exact fl_28_3)); exact rfl; exact rfl)
    | (apply EvO.fldRo; exact rfl; ((with_reducible first | exact fl_28_0 | exact fl_28_1 | exact fl_28_2 | exact fl_28_3)); exact rfl; exact rfl)
    | (apply EvO.boxAgg; exact rfl; kernel_rfl; exact rfl; exact rfl; exact rfl)
    | (apply EvO.call; exact (s_l01In _ _ _); exact rfl; exact rfl; exact rfl)
    | (apply EvO.gsplit; exact rfl; exact rfl; exact rfl; all_goals (intro hh; first | replace hh := of_decide_eq_true hh | replace hh := of_decide_eq_false hh | skip))
    | (apply EvO.move; exact rfl; exact rfl)
    | (apply EvO.assign; exact rfl; exact rfl)
    | refine Ev.ret ?_)
  all_goals (refine pvb ?_; simp only [Dev.ok]; simp [*])
theorem Dev.ok.b {d : Dev} (h : d.ok) : (3 ≤ d.W ∧ d.W ≤ 6) ∧ (3 ≤ d.H ∧ d.H ≤ 6) ∧ (1 ≤ d.T ∧ d.T ≤ 4) ∧ -1 ≤ d.R ∧ d.R ≤ d.W - 2 ∧ 9 ≤ d.W * d.H ∧ d.W * d.H ≤ 36 := by
  have h1 := area h.1 h.2.1
  obtain ⟨_, _, _, _⟩ := h
  omega
set_option maxRecDepth 20000 in
set_option maxHeartbeats 1000000 in
theorem i_tileOk (d : Dev) (t : Int) : CallSpec Try.prog 36 [.agg (encDev d), .one (.int t)] (.t (.bool (decide (d.tileOk t)))) := by
  refine spec1 (fun _ => []) Try.func36 (by kernel_rfl) rfl Try.ntmps36 rfl Try.results36 rfl ?_
  intro B0 w0 S0
  by_cases h : d.ok
  · have hb := h.b
    repeat' (first
      | refine Ev.seq ?_
      | refine Ev.region ?_
      | refine Ev.skip ?_
      | refine EvO.nil ?_
      | (apply EvO.moveT; exact rfl; exact rfl; exact rfl)
      | (apply EvO.moveAl; exact rfl; exact rfl; exact rfl)
      | (apply EvO.moveAgg; exact rfl; exact rfl; exact rfl)
      | (apply EvO.assignOwn; exact rfl; exact rfl; exact rfl; exact rfl; exact rfl)
      | (apply EvO.assignT; exact rfl; exact rfl; exact rfl)
      | (apply EvO.assignAl; exact rfl; exact rfl; exact rfl)
      | (apply EvO.assignAgg; exact rfl; exact rfl; exact rfl)
      | (apply EvO.sub; exact rfl; exact rfl; omega; exact rfl; exact rfl)
      | (apply EvO.mul; exact rfl; exact rfl; (first | omega | (apply mul_bd <;> omega)); exact rfl; exact rfl)
      | (apply EvO.pickT; exact rfl; exact rfl; exact rfl; exact rfl)
      | (apply EvO.pickF; exact rfl; exact rfl; exact rfl; exact rfl)
      | (apply EvO.skip; exact rfl; exact rfl; exact rfl)
      | (apply EvO.loadI; exact rfl; exact rfl; omega; omega; kernel_rfl; exact rfl; exact rfl)
      | (apply EvO.loadOwn; exact rfl; exact rfl; exact rfl; exact rfl; exact rfl; kernel_rfl; exact rfl; exact rfl)
      | (apply EvO.loadBoxAgg; exact rfl; exact rfl; exact rfl; kernel_rfl; exact rfl; exact rfl; exact rfl)
      | (apply EvO.loadBox; exact rfl; exact rfl; exact rfl; exact rfl; kernel_rfl; exact rfl; exact rfl)
      | (apply EvO.loadRo; exact rfl; exact rfl; kernel_rfl; exact rfl; exact rfl)
      | (apply EvO.fldBox; exact rfl; exact rfl; ((with_reducible first | exact fl_28_0 | exact fl_28_1)); exact rfl; exact rfl; exact rfl)
      | (apply EvO.fldAddr; exact rfl; ((with_reducible first | exact fl_28_0 | exact fl_28_1)); exact rfl; exact rfl)
      | (apply EvO.fldRo; exact rfl; ((with_reducible first | exact fl_28_0 | exact fl_28_1)); exact rfl; exact rfl)
      | (apply EvO.boxAgg; exact rfl; kernel_rfl; exact rfl; exact rfl; exact rfl)
      | (apply EvO.call; exact (CallSpec.bT (i_DeviceOk _) h); exact rfl; exact rfl; exact rfl)
      | (apply EvO.call; exact (i_inRange _ _ _); exact rfl; exact rfl; exact rfl)
      | (apply EvO.gsplit; exact rfl; exact rfl; exact rfl; all_goals (intro hh; first | replace hh := of_decide_eq_true hh | replace hh := of_decide_eq_false hh | skip))
      | (apply EvO.move; exact rfl; exact rfl)
      | (apply EvO.assign; exact rfl; exact rfl)
      | refine Ev.ret ?_)
    all_goals (refine pvb ?_; simp [Dev.tileOk, *])
  · repeat' (first
      | refine Ev.seq ?_
      | refine Ev.region ?_
      | refine Ev.skip ?_
      | refine EvO.nil ?_
      | (apply EvO.moveT; exact rfl; exact rfl; exact rfl)
      | (apply EvO.moveAl; exact rfl; exact rfl; exact rfl)
      | (apply EvO.moveAgg; exact rfl; exact rfl; exact rfl)
      | (apply EvO.assignOwn; exact rfl; exact rfl; exact rfl; exact rfl; exact rfl)
      | (apply EvO.assignT; exact rfl; exact rfl; exact rfl)
      | (apply EvO.assignAl; exact rfl; exact rfl; exact rfl)
      | (apply EvO.assignAgg; exact rfl; exact rfl; exact rfl)
      | (apply EvO.sub; exact rfl; exact rfl; omega; exact rfl; exact rfl)
      | (apply EvO.mul; exact rfl; exact rfl; (first | omega | (apply mul_bd <;> omega)); exact rfl; exact rfl)
      | (apply EvO.pickT; exact rfl; exact rfl; exact rfl; exact rfl)
      | (apply EvO.pickF; exact rfl; exact rfl; exact rfl; exact rfl)
      | (apply EvO.skip; exact rfl; exact rfl; exact rfl)
      | (apply EvO.loadI; exact rfl; exact rfl; omega; omega; kernel_rfl; exact rfl; exact rfl)
      | (apply EvO.loadOwn; exact rfl; exact rfl; exact rfl; exact rfl; exact rfl; kernel_rfl; exact rfl; exact rfl)
      | (apply EvO.loadBoxAgg; exact rfl; exact rfl; exact rfl; kernel_rfl; exact rfl; exact rfl; exact rfl)
      | (apply EvO.loadBox; exact rfl; exact rfl; exact rfl; exact rfl; kernel_rfl; exact rfl; exact rfl)
      | (apply EvO.loadRo; exact rfl; exact rfl; kernel_rfl; exact rfl; exact rfl)
      | (apply EvO.fldBox; exact rfl; exact rfl; ((with_reducible first | exact fl_28_0 | exact fl_28_1)); exact rfl; exact rfl; exact rfl)
      | (apply EvO.fldAddr; exact rfl; ((with_reducible first | exact fl_28_0 | exact fl_28_1)); exact rfl; exact rfl)
      | (apply EvO.fldRo; exact rfl; ((with_reducible first | exact fl_28_0 | exact fl_28_1)); exact rfl; exact rfl)
      | (apply EvO.boxAgg; exact rfl; kernel_rfl; exact rfl; exact rfl; exact rfl)
      | (apply EvO.call; exact (CallSpec.bF (i_DeviceOk _) h); exact rfl; exact rfl; exact rfl)
      | (apply EvO.call; exact (i_inRange _ _ _); exact rfl; exact rfl; exact rfl)
      | (apply EvO.gsplit; exact rfl; exact rfl; exact rfl; all_goals (intro hh; first | replace hh := of_decide_eq_true hh | replace hh := of_decide_eq_false hh | skip))
      | (apply EvO.move; exact rfl; exact rfl)
      | (apply EvO.assign; exact rfl; exact rfl)
      | refine Ev.ret ?_)
    all_goals (refine pvb ?_; simp [Dev.tileOk, *])
set_option maxRecDepth 20000 in
set_option maxHeartbeats 1000000 in
theorem i_InPins (k : Int) : CallSpec Try.prog 41 [.one (.int k)] (.t (.int (inPins k))) := by
  refine spec1 (fun _ => []) Try.func41 (by kernel_rfl) rfl Try.ntmps41 rfl Try.results41 rfl ?_
  intro B0 w0 S0
  repeat' (first
    | refine Ev.seq ?_
    | refine Ev.block ?_
    | refine Ev.region ?_
    | refine Ev.skip ?_
    | refine EvO.nil ?_
    | (apply EvO.moveT; exact rfl; exact rfl; exact rfl)
    | (apply EvO.moveAl; exact rfl; exact rfl; exact rfl)
    | (apply EvO.moveAgg; exact rfl; exact rfl; exact rfl)
    | (apply EvO.assignOwn; exact rfl; exact rfl; exact rfl; exact rfl; exact rfl)
    | (apply EvO.assignT; exact rfl; exact rfl; exact rfl)
    | (apply EvO.assignAl; exact rfl; exact rfl; exact rfl)
    | (apply EvO.assignAgg; exact rfl; exact rfl; exact rfl)
    | (apply EvO.eql; exact rfl; exact rfl; exact rfl; exact rfl)
    | (apply EvO.eqlB; exact rfl; exact rfl; kernel_rfl; exact rfl; exact rfl)
    | (apply Ev.condT; exact rfl)
    | (apply Ev.condF; exact rfl)
    | (apply Ev.cond; exact rfl; all_goals (intro hh; first | replace hh := of_decide_eq_true hh | replace hh := of_decide_eq_false hh | skip))
    | (apply EvO.move; exact rfl; exact rfl)
    | (apply EvO.assign; exact rfl; exact rfl)
    | refine Ev.ret ?_)
  all_goals first | (exfalso; omega) | (refine pvi ?_; simp [inPins, *])
set_option maxRecDepth 20000 in
set_option maxHeartbeats 1000000 in
theorem s_InPins (k : Int) : CallSpec Try.prog 40 [.one (.int k)] (.t (.int (inPins k))) := by
  refine spec1 (fun _ => []) Try.func40 (by kernel_rfl) rfl Try.ntmps40 rfl Try.results40 rfl ?_
  intro B0 w0 S0
  repeat' (first
    | refine Ev.seq ?_
    | refine Ev.block ?_
    | refine Ev.region ?_
    | refine Ev.skip ?_
    | refine EvO.nil ?_
    | (apply EvO.moveT; exact rfl; exact rfl; exact rfl)
    | (apply EvO.moveAl; exact rfl; exact rfl; exact rfl)
    | (apply EvO.moveAgg; exact rfl; exact rfl; exact rfl)
    | (apply EvO.assignOwn; exact rfl; exact rfl; exact rfl; exact rfl; exact rfl)
    | (apply EvO.assignT; exact rfl; exact rfl; exact rfl)
    | (apply EvO.assignAl; exact rfl; exact rfl; exact rfl)
    | (apply EvO.assignAgg; exact rfl; exact rfl; exact rfl)
    | (apply EvO.eql; exact rfl; exact rfl; exact rfl; exact rfl)
    | (apply EvO.eqlB; exact rfl; exact rfl; kernel_rfl; exact rfl; exact rfl)
    | (apply Ev.condT; exact rfl)
    | (apply Ev.condF; exact rfl)
    | (apply Ev.cond; exact rfl; all_goals (intro hh; first | replace hh := of_decide_eq_true hh | replace hh := of_decide_eq_false hh | skip))
    | (apply EvO.move; exact rfl; exact rfl)
    | (apply EvO.assign; exact rfl; exact rfl)
    | refine Ev.ret ?_)
  all_goals first | (exfalso; omega) | (refine pvi ?_; simp [inPins, *])
set_option maxRecDepth 20000 in
set_option maxHeartbeats 1000000 in
theorem i_BlockTile (k : Int) : CallSpec Try.prog 12 [.one (.int k)] (.t (.int (blockTile k))) := by
  refine spec1 (fun _ => []) Try.func12 (by kernel_rfl) rfl Try.ntmps12 rfl Try.results12 rfl ?_
  intro B0 w0 S0
  repeat' (first
    | refine Ev.seq ?_
    | refine Ev.block ?_
    | refine Ev.region ?_
    | refine Ev.skip ?_
    | refine EvO.nil ?_
    | (apply EvO.moveT; exact rfl; exact rfl; exact rfl)
    | (apply EvO.moveAl; exact rfl; exact rfl; exact rfl)
    | (apply EvO.moveAgg; exact rfl; exact rfl; exact rfl)
    | (apply EvO.assignOwn; exact rfl; exact rfl; exact rfl; exact rfl; exact rfl)
    | (apply EvO.assignT; exact rfl; exact rfl; exact rfl)
    | (apply EvO.assignAl; exact rfl; exact rfl; exact rfl)
    | (apply EvO.assignAgg; exact rfl; exact rfl; exact rfl)
    | (apply EvO.eql; exact rfl; exact rfl; exact rfl; exact rfl)
    | (apply EvO.eqlB; exact rfl; exact rfl; kernel_rfl; exact rfl; exact rfl)
    | (apply Ev.condT; exact rfl)
    | (apply Ev.condF; exact rfl)
    | (apply Ev.cond; exact rfl; all_goals (intro hh; first | replace hh := of_decide_eq_true hh | replace hh := of_decide_eq_false hh | skip))
    | (apply EvO.move; exact rfl; exact rfl)
    | (apply EvO.assign; exact rfl; exact rfl)
    | refine Ev.ret ?_)
  all_goals first | (exfalso; omega) | (refine pvi ?_; simp [blockTile, *])
set_option maxRecDepth 20000 in
set_option maxHeartbeats 1000000 in
theorem s_BlockTile (k : Int) : CallSpec Try.prog 11 [.one (.int k)] (.t (.int (blockTile k))) := by
  refine spec1 (fun _ => []) Try.func11 (by kernel_rfl) rfl Try.ntmps11 rfl Try.results11 rfl ?_
  intro B0 w0 S0
  repeat' (first
    | refine Ev.seq ?_
    | refine Ev.block ?_
    | refine Ev.region ?_
    | refine Ev.skip ?_
    | refine EvO.nil ?_
    | (apply EvO.moveT; exact rfl; exact rfl; exact rfl)
    | (apply EvO.moveAl; exact rfl; exact rfl; exact rfl)
    | (apply EvO.moveAgg; exact rfl; exact rfl; exact rfl)
    | (apply EvO.assignOwn; exact rfl; exact rfl; exact rfl; exact rfl; exact rfl)
    | (apply EvO.assignT; exact rfl; exact rfl; exact rfl)
    | (apply EvO.assignAl; exact rfl; exact rfl; exact rfl)
    | (apply EvO.assignAgg; exact rfl; exact rfl; exact rfl)
    | (apply EvO.eql; exact rfl; exact rfl; exact rfl; exact rfl)
    | (apply EvO.eqlB; exact rfl; exact rfl; kernel_rfl; exact rfl; exact rfl)
    | (apply Ev.condT; exact rfl)
    | (apply Ev.condF; exact rfl)
    | (apply Ev.cond; exact rfl; all_goals (intro hh; first | replace hh := of_decide_eq_true hh | replace hh := of_decide_eq_false hh | skip))
    | (apply EvO.move; exact rfl; exact rfl)
    | (apply EvO.assign; exact rfl; exact rfl)
    | refine Ev.ret ?_)
  all_goals first | (exfalso; omega) | (refine pvi ?_; simp [blockTile, *])

theorem Dev.tileOk.b {d : Dev} {t : Int} (h : d.tileOk t) : (0 ≤ t.tmod d.W ∧ t.tmod d.W ≤ d.W - 1) ∧ (0 ≤ t.tdiv d.W ∧ t.tdiv d.W ≤ d.H - 1) ∧ 0 ≤ t ∧ t ≤ 35 ∧ t.tdiv d.W * d.W + t.tmod d.W = t := by
  obtain ⟨hd, h0, h1⟩ := h
  have hb := hd.b
  have e := Int.tmod_add_mul_tdiv t d.W
  have h2 : 0 ≤ t.tmod d.W := Int.tmod_nonneg _ h0
  have h3 : t.tmod d.W < d.W := Int.tmod_lt_of_pos _ (by omega)
  have h4 : 0 ≤ t.tdiv d.W := Int.tdiv_nonneg h0 (by omega)
  have h5 : t.tdiv d.W < d.H := by
    rw [Int.tdiv_eq_ediv_of_nonneg h0]
    exact Int.ediv_lt_of_lt_mul (by omega) (by rw [Int.mul_comm]; omega)
  rw [Int.mul_comm] at e
  omega
def sX (s dir : Int) : Int := if dir = 0 then s else if dir = 2 then -s else 0
def sY (s dir : Int) : Int := if dir = 1 then s else if dir = 3 then -s else 0
@[irreducible] def Dev.step (d : Dev) (t dir s : Int) : Int :=
  if (0 ≤ t.tmod d.W + sX s dir ∧ t.tmod d.W + sX s dir ≤ d.W - 1) ∧ (0 ≤ t.tdiv d.W + sY s dir ∧ t.tdiv d.W + sY s dir ≤ d.H - 1) then (t.tdiv d.W + sY s dir) * d.W + (t.tmod d.W + sX s dir) else -1
theorem Dev.step0 (d : Dev) (t s : Int) : d.step t 0 s = if (0 ≤ t.tmod d.W + s ∧ t.tmod d.W + s ≤ d.W - 1) ∧ (0 ≤ t.tdiv d.W ∧ t.tdiv d.W ≤ d.H - 1) then t.tdiv d.W * d.W + (t.tmod d.W + s) else -1 := by
  simp [Dev.step, sX, sY]
theorem Dev.step1 (d : Dev) (t s : Int) : d.step t 1 s = if (0 ≤ t.tmod d.W ∧ t.tmod d.W ≤ d.W - 1) ∧ (0 ≤ t.tdiv d.W + s ∧ t.tdiv d.W + s ≤ d.H - 1) then (t.tdiv d.W + s) * d.W + t.tmod d.W else -1 := by
  simp [Dev.step, sX, sY]
theorem Dev.step2 (d : Dev) (t s : Int) : d.step t 2 s = if (0 ≤ t.tmod d.W - s ∧ t.tmod d.W - s ≤ d.W - 1) ∧ (0 ≤ t.tdiv d.W ∧ t.tdiv d.W ≤ d.H - 1) then t.tdiv d.W * d.W + (t.tmod d.W - s) else -1 := by
  simp [Dev.step, sX, sY, Int.sub_eq_add_neg]
theorem Dev.step3 (d : Dev) (t s : Int) : d.step t 3 s = if (0 ≤ t.tmod d.W ∧ t.tmod d.W ≤ d.W - 1) ∧ (0 ≤ t.tdiv d.W - s ∧ t.tdiv d.W - s ≤ d.H - 1) then (t.tdiv d.W - s) * d.W + t.tmod d.W else -1 := by
  simp [Dev.step, sX, sY, Int.sub_eq_add_neg]
theorem Dev.kindBd (d : Dev) (t : Int) : 0 ≤ d.kind t ∧ d.kind t ≤ 2 := by
  unfold Dev.kind; split <;> (try split) <;> omega
theorem rowBd {d : Dev} {y : Int} (h : d.ok) : 0 ≤ y → y ≤ d.H - 1 → 0 ≤ y * d.W ∧ y * d.W ≤ 30 := by
  intro h1 h2
  have hb := h.b
  refine ⟨Int.mul_nonneg h1 (by omega), ?_⟩
  have h3 : y * d.W ≤ 5 * d.W := Int.mul_le_mul_of_nonneg_right (by omega) (by omega)
  omega
set_option maxRecDepth 20000 in
set_option maxHeartbeats 1000000 in
theorem i_tileKind (d : Dev) (t : Int) (h : d.tileOk t) : CallSpec Try.prog 42 [.agg (encDev d), .one (.int t)] (.t (.int (d.kind t))) := by
  refine spec1 pm42 Try.func42 (by kernel_rfl) rfl Try.ntmps42 rfl Try.results42 rfl ?_
  intro B0 w0 S0
  have hb := h.1.b
  have hc := h.b
  repeat' (first
    | refine Ev.seq ?_
    | refine Ev.block ?_
    | refine Ev.region ?_
    | (apply Ev.draws; exact follows; kernel_rfl)
    | refine Ev.skip ?_
    | refine EvO.nil ?_
    | (apply EvO.moveT; exact rfl; exact rfl; exact rfl)
    | (apply EvO.moveAl; exact rfl; exact rfl; exact rfl)
    | (apply EvO.moveAgg; exact rfl; exact rfl; exact rfl)
    | (apply EvO.assignOwn; exact rfl; exact rfl; exact rfl; exact rfl; exact rfl)
    | (apply EvO.assignT; exact rfl; exact rfl; exact rfl)
    | (apply EvO.assignAl; exact rfl; exact rfl; exact rfl)
    | (apply EvO.assignAgg; exact rfl; exact rfl; exact rfl)
    | (apply EvO.sub; exact rfl; exact rfl; omega; exact rfl; exact rfl)
    | (apply EvO.quo; exact rfl; exact rfl; omega; omega; exact rfl; exact rfl)
    | (apply EvO.rem; exact rfl; exact rfl; omega; exact rfl; exact rfl)
    | (apply EvO.eql; exact rfl; exact rfl; exact rfl; exact rfl)
    | (apply EvO.eqlB; exact rfl; exact rfl; kernel_rfl; exact rfl; exact rfl)
    | (apply EvO.pickT; exact rfl; exact rfl; exact rfl; exact rfl)
    | (apply EvO.pickF; exact rfl; exact rfl; exact rfl; exact rfl)
    | (apply EvO.skip; exact rfl; exact rfl; exact rfl)
    | (apply EvO.loadI; exact rfl; exact rfl; omega; omega; kernel_rfl; exact rfl; exact rfl)
    | (apply EvO.loadOwn; exact rfl; exact rfl; exact rfl; exact rfl; exact rfl; kernel_rfl; exact rfl; exact rfl)
    | (apply EvO.loadBoxAgg; exact rfl; exact rfl; exact rfl; kernel_rfl; exact rfl; exact rfl; exact rfl)
    | (apply EvO.loadBox; exact rfl; exact rfl; exact rfl; exact rfl; kernel_rfl; exact rfl; exact rfl)
    | (apply EvO.loadRo; exact rfl; exact rfl; kernel_rfl; exact rfl; exact rfl)
    | (apply EvO.fldBox; exact rfl; exact rfl; ((with_reducible first | exact fl_28_0 | exact fl_28_1 | exact fl_28_3)); exact rfl; exact rfl; exact rfl)
    | (apply EvO.fldAddr; exact rfl; ((with_reducible first | exact fl_28_0 | exact fl_28_1 | exact fl_28_3)); exact rfl; exact rfl)
    | (apply EvO.fldRo; exact rfl; ((with_reducible first | exact fl_28_0 | exact fl_28_1 | exact fl_28_3)); exact rfl; exact rfl)
    | (apply EvO.boxAgg; exact rfl; kernel_rfl; exact rfl; exact rfl; exact rfl)
    | (apply Ev.condT; exact rfl)
    | (apply Ev.condF; exact rfl)
    | (apply Ev.cond; exact rfl; all_goals (intro hh; first | replace hh := of_decide_eq_true hh | replace hh := of_decide_eq_false hh | skip))
    | (apply EvO.gsplit; exact rfl; exact rfl; exact rfl; all_goals (intro hh; first | replace hh := of_decide_eq_true hh | replace hh := of_decide_eq_false hh | skip))
    | (apply EvO.move; exact rfl; exact rfl)
    | (apply EvO.assign; exact rfl; exact rfl)
    | refine Ev.ret ?_)
  all_goals (refine pvi ?_; unfold Dev.kind; split <;> (try split) <;> omega)
set_option maxRecDepth 20000 in
set_option maxHeartbeats 1000000 in
theorem s_TileKind (d : Dev) (t : Int) : CallSpec Try.prog 33 [.agg (encDev d), .one (.int t)] (.t (.int (if d.tileOk t then d.kind t else -1))) := by
  refine spec1 (fun _ => []) Try.func33 (by kernel_rfl) rfl Try.ntmps33 rfl Try.results33 rfl ?_
  intro B0 w0 S0
  by_cases h : d.ok
  · have hb := h.b
    by_cases h0 : 0 ≤ t
    · by_cases h1 : t ≤ d.W * d.H - 1
      · have ht : d.tileOk t := ⟨h, h0, h1⟩
        have hc := ht.b
        rw [if_pos ht]
        repeat' (first
          | refine Ev.seq ?_
          | refine Ev.region ?_
          | refine Ev.skip ?_
          | refine EvO.nil ?_
          | (apply EvO.moveT; exact rfl; exact rfl; exact rfl)
          | (apply EvO.moveAl; exact rfl; exact rfl; exact rfl)
          | (apply EvO.moveAgg; exact rfl; exact rfl; exact rfl)
          | (apply EvO.assignOwn; exact rfl; exact rfl; exact rfl; exact rfl; exact rfl)
          | (apply EvO.assignT; exact rfl; exact rfl; exact rfl)
          | (apply EvO.assignAl; exact rfl; exact rfl; exact rfl)
          | (apply EvO.assignAgg; exact rfl; exact rfl; exact rfl)
          | (apply EvO.sub; exact rfl; exact rfl; omega; exact rfl; exact rfl)
          | (apply EvO.mul; exact rfl; exact rfl; (first | omega | (apply mul_bd <;> omega)); exact rfl; exact rfl)
          | (apply EvO.quo; exact rfl; exact rfl; omega; omega; exact rfl; exact rfl)
          | (apply EvO.rem; exact rfl; exact rfl; omega; exact rfl; exact rfl)
          | (apply EvO.eql; exact rfl; exact rfl; exact rfl; exact rfl)
          | (apply EvO.eqlB; exact rfl; exact rfl; kernel_rfl; exact rfl; exact rfl)
          | (apply EvO.lss; exact rfl; exact rfl; exact rfl; exact rfl)
          | (apply EvO.geq; exact rfl; exact rfl; exact rfl; exact rfl)
          | (apply EvO.notP; exact rfl; exact rfl; exact rfl)
          | (apply EvO.not; exact rfl; exact rfl; exact rfl)
          | (apply EvO.pickT; exact rfl; exact rfl; exact rfl; exact rfl)
          | (apply EvO.pickF; exact rfl; exact rfl; exact rfl; exact rfl)
          | (apply EvO.skip; exact rfl; exact rfl; exact rfl)
          | (apply EvO.loadI; exact rfl; exact rfl; omega; omega; kernel_rfl; exact rfl; exact rfl)
          | (apply EvO.loadOwn; exact rfl; exact rfl; exact rfl; exact rfl; exact rfl; kernel_rfl; exact rfl; exact rfl)
          | (apply EvO.loadBoxAgg; exact rfl; exact rfl; exact rfl; kernel_rfl; exact rfl; exact rfl; exact rfl)
          | (apply EvO.loadBox; exact rfl; exact rfl; exact rfl; exact rfl; kernel_rfl; exact rfl; exact rfl)
          | (apply EvO.loadRo; exact rfl; exact rfl; kernel_rfl; exact rfl; exact rfl)
          | (apply EvO.fldBox; exact rfl; exact rfl; ((with_reducible first | exact fl_28_0 | exact fl_28_1 | exact fl_28_3)); exact rfl; exact rfl; exact rfl)
          | (apply EvO.fldAddr; exact rfl; ((with_reducible first | exact fl_28_0 | exact fl_28_1 | exact fl_28_3)); exact rfl; exact rfl)
          | (apply EvO.fldRo; exact rfl; ((with_reducible first | exact fl_28_0 | exact fl_28_1 | exact fl_28_3)); exact rfl; exact rfl)
          | (apply EvO.boxAgg; exact rfl; kernel_rfl; exact rfl; exact rfl; exact rfl)
          | (apply EvO.call; exact (CallSpec.bT (s_DeviceOk _) h); exact rfl; exact rfl; exact rfl)
          | (apply Ev.condT; exact rfl)
          | (apply Ev.condF; exact rfl)
          | (apply Ev.cond; exact rfl; all_goals (intro hh; first | replace hh := of_decide_eq_true hh | replace hh := of_decide_eq_false hh | skip))
          | (apply EvO.gsplit; exact rfl; exact rfl; exact rfl; all_goals (intro hh; first | replace hh := of_decide_eq_true hh | replace hh := of_decide_eq_false hh | skip))
          | (apply EvO.move; exact rfl; exact rfl)
          | (apply EvO.assign; exact rfl; exact rfl)
          | refine Ev.ret ?_)
        all_goals (refine pvi ?_; unfold Dev.kind; split <;> (try split) <;> omega)
      · rw [if_neg (fun e => h1 e.2.2)]
        repeat' (first
          | refine Ev.seq ?_
          | refine Ev.region ?_
          | refine Ev.skip ?_
          | refine EvO.nil ?_
          | (apply EvO.moveT; exact rfl; exact rfl; exact rfl)
          | (apply EvO.moveAl; exact rfl; exact rfl; exact rfl)
          | (apply EvO.moveAgg; exact rfl; exact rfl; exact rfl)
          | (apply EvO.assignOwn; exact rfl; exact rfl; exact rfl; exact rfl; exact rfl)
          | (apply EvO.assignT; exact rfl; exact rfl; exact rfl)
          | (apply EvO.assignAl; exact rfl; exact rfl; exact rfl)
          | (apply EvO.assignAgg; exact rfl; exact rfl; exact rfl)
          | (apply EvO.sub; exact rfl; exact rfl; omega; exact rfl; exact rfl)
          | (apply EvO.mul; exact rfl; exact rfl; (first | omega | (apply mul_bd <;> omega)); exact rfl; exact rfl)
          | (apply EvO.quo; exact rfl; exact rfl; omega; omega; exact rfl; exact rfl)
          | (apply EvO.rem; exact rfl; exact rfl; omega; exact rfl; exact rfl)
          | (apply EvO.eql; exact rfl; exact rfl; exact rfl; exact rfl)
          | (apply EvO.eqlB; exact rfl; exact rfl; kernel_rfl; exact rfl; exact rfl)
          | (apply EvO.lss; exact rfl; exact rfl; exact rfl; exact rfl)
          | (apply EvO.geq; exact rfl; exact rfl; exact rfl; exact rfl)
          | (apply EvO.notP; exact rfl; exact rfl; exact rfl)
          | (apply EvO.not; exact rfl; exact rfl; exact rfl)
          | (apply EvO.pickT; exact rfl; exact rfl; exact rfl; exact rfl)
          | (apply EvO.pickF; exact rfl; exact rfl; exact rfl; exact rfl)
          | (apply EvO.skip; exact rfl; exact rfl; exact rfl)
          | (apply EvO.loadI; exact rfl; exact rfl; omega; omega; kernel_rfl; exact rfl; exact rfl)
          | (apply EvO.loadOwn; exact rfl; exact rfl; exact rfl; exact rfl; exact rfl; kernel_rfl; exact rfl; exact rfl)
          | (apply EvO.loadBoxAgg; exact rfl; exact rfl; exact rfl; kernel_rfl; exact rfl; exact rfl; exact rfl)
          | (apply EvO.loadBox; exact rfl; exact rfl; exact rfl; exact rfl; kernel_rfl; exact rfl; exact rfl)
          | (apply EvO.loadRo; exact rfl; exact rfl; kernel_rfl; exact rfl; exact rfl)
          | (apply EvO.fldBox; exact rfl; exact rfl; ((with_reducible first | exact fl_28_0 | exact fl_28_1 | exact fl_28_3)); exact rfl; exact rfl; exact rfl)
          | (apply EvO.fldAddr; exact rfl; ((with_reducible first | exact fl_28_0 | exact fl_28_1 | exact fl_28_3)); exact rfl; exact rfl)
          | (apply EvO.fldRo; exact rfl; ((with_reducible first | exact fl_28_0 | exact fl_28_1 | exact fl_28_3)); exact rfl; exact rfl)
          | (apply EvO.boxAgg; exact rfl; kernel_rfl; exact rfl; exact rfl; exact rfl)
          | (apply EvO.call; exact (CallSpec.bT (s_DeviceOk _) h); exact rfl; exact rfl; exact rfl)
          | (apply Ev.condT; exact rfl)
          | (apply Ev.condF; exact rfl)
          | (apply Ev.cond; exact rfl; all_goals (intro hh; first | replace hh := of_decide_eq_true hh | replace hh := of_decide_eq_false hh | skip))
          | (apply EvO.gsplit; exact rfl; exact rfl; exact rfl; all_goals (intro hh; first | replace hh := of_decide_eq_true hh | replace hh := of_decide_eq_false hh | skip))
          | (apply EvO.move; exact rfl; exact rfl)
          | (apply EvO.assign; exact rfl; exact rfl)
          | refine Ev.ret ?_)
        all_goals (refine pvi ?_; omega)
    · rw [if_neg (fun e => h0 e.2.1)]
      repeat' (first
        | refine Ev.seq ?_
        | refine Ev.region ?_
        | refine Ev.skip ?_
        | refine EvO.nil ?_
        | (apply EvO.moveT; exact rfl; exact rfl; exact rfl)
        | (apply EvO.moveAl; exact rfl; exact rfl; exact rfl)
        | (apply EvO.moveAgg; exact rfl; exact rfl; exact rfl)
        | (apply EvO.assignOwn; exact rfl; exact rfl; exact rfl; exact rfl; exact rfl)
        | (apply EvO.assignT; exact rfl; exact rfl; exact rfl)
        | (apply EvO.assignAl; exact rfl; exact rfl; exact rfl)
        | (apply EvO.assignAgg; exact rfl; exact rfl; exact rfl)
        | (apply EvO.sub; exact rfl; exact rfl; omega; exact rfl; exact rfl)
        | (apply EvO.mul; exact rfl; exact rfl; (first | omega | (apply mul_bd <;> omega)); exact rfl; exact rfl)
        | (apply EvO.quo; exact rfl; exact rfl; omega; omega; exact rfl; exact rfl)
        | (apply EvO.rem; exact rfl; exact rfl; omega; exact rfl; exact rfl)
        | (apply EvO.eql; exact rfl; exact rfl; exact rfl; exact rfl)
        | (apply EvO.eqlB; exact rfl; exact rfl; kernel_rfl; exact rfl; exact rfl)
        | (apply EvO.lss; exact rfl; exact rfl; exact rfl; exact rfl)
        | (apply EvO.geq; exact rfl; exact rfl; exact rfl; exact rfl)
        | (apply EvO.notP; exact rfl; exact rfl; exact rfl)
        | (apply EvO.not; exact rfl; exact rfl; exact rfl)
        | (apply EvO.pickT; exact rfl; exact rfl; exact rfl; exact rfl)
        | (apply EvO.pickF; exact rfl; exact rfl; exact rfl; exact rfl)
        | (apply EvO.skip; exact rfl; exact rfl; exact rfl)
        | (apply EvO.loadI; exact rfl; exact rfl; omega; omega; kernel_rfl; exact rfl; exact rfl)
        | (apply EvO.loadOwn; exact rfl; exact rfl; exact rfl; exact rfl; exact rfl; kernel_rfl; exact rfl; exact rfl)
        | (apply EvO.loadBoxAgg; exact rfl; exact rfl; exact rfl; kernel_rfl; exact rfl; exact rfl; exact rfl)
        | (apply EvO.loadBox; exact rfl; exact rfl; exact rfl; exact rfl; kernel_rfl; exact rfl; exact rfl)
        | (apply EvO.loadRo; exact rfl; exact rfl; kernel_rfl; exact rfl; exact rfl)
        | (apply EvO.fldBox; exact rfl; exact rfl; ((with_reducible first | exact fl_28_0 | exact fl_28_1 | exact fl_28_3)); exact rfl; exact rfl; exact rfl)
        | (apply EvO.fldAddr; exact rfl; ((with_reducible first | exact fl_28_0 | exact fl_28_1 | exact fl_28_3)); exact rfl; exact rfl)
        | (apply EvO.fldRo; exact rfl; ((with_reducible first | exact fl_28_0 | exact fl_28_1 | exact fl_28_3)); exact rfl; exact rfl)
        | (apply EvO.boxAgg; exact rfl; kernel_rfl; exact rfl; exact rfl; exact rfl)
        | (apply EvO.call; exact (CallSpec.bT (s_DeviceOk _) h); exact rfl; exact rfl; exact rfl)
        | (apply Ev.condT; exact rfl)
        | (apply Ev.condF; exact rfl)
        | (apply Ev.cond; exact rfl; all_goals (intro hh; first | replace hh := of_decide_eq_true hh | replace hh := of_decide_eq_false hh | skip))
        | (apply EvO.gsplit; exact rfl; exact rfl; exact rfl; all_goals (intro hh; first | replace hh := of_decide_eq_true hh | replace hh := of_decide_eq_false hh | skip))
        | (apply EvO.move; exact rfl; exact rfl)
        | (apply EvO.assign; exact rfl; exact rfl)
        | refine Ev.ret ?_)
      all_goals (refine pvi ?_; omega)
  · rw [if_neg (fun e => h e.1)]
    repeat' (first
      | refine Ev.seq ?_
      | refine Ev.region ?_
      | refine Ev.skip ?_
      | refine EvO.nil ?_
      | (apply EvO.moveT; exact rfl; exact rfl; exact rfl)
      | (apply EvO.moveAl; exact rfl; exact rfl; exact rfl)
      | (apply EvO.moveAgg; exact rfl; exact rfl; exact rfl)
      | (apply EvO.assignOwn; exact rfl; exact rfl; exact rfl; exact rfl; exact rfl)
      | (apply EvO.assignT; exact rfl; exact rfl; exact rfl)
      | (apply EvO.assignAl; exact rfl; exact rfl; exact rfl)
      | (apply EvO.assignAgg; exact rfl; exact rfl; exact rfl)
      | (apply EvO.sub; exact rfl; exact rfl; omega; exact rfl; exact rfl)
      | (apply EvO.mul; exact rfl; exact rfl; (first | omega | (apply mul_bd <;> omega)); exact rfl; exact rfl)
      | (apply EvO.quo; exact rfl; exact rfl; omega; omega; exact rfl; exact rfl)
      | (apply EvO.rem; exact rfl; exact rfl; omega; exact rfl; exact rfl)
      | (apply EvO.eql; exact rfl; exact rfl; exact rfl; exact rfl)
      | (apply EvO.eqlB; exact rfl; exact rfl; kernel_rfl; exact rfl; exact rfl)
      | (apply EvO.lss; exact rfl; exact rfl; exact rfl; exact rfl)
      | (apply EvO.geq; exact rfl; exact rfl; exact rfl; exact rfl)
      | (apply EvO.notP; exact rfl; exact rfl; exact rfl)
      | (apply EvO.not; exact rfl; exact rfl; exact rfl)
      | (apply EvO.pickT; exact rfl; exact rfl; exact rfl; exact rfl)
      | (apply EvO.pickF; exact rfl; exact rfl; exact rfl; exact rfl)
      | (apply EvO.skip; exact rfl; exact rfl; exact rfl)
      | (apply EvO.loadI; exact rfl; exact rfl; omega; omega; kernel_rfl; exact rfl; exact rfl)
      | (apply EvO.loadOwn; exact rfl; exact rfl; exact rfl; exact rfl; exact rfl; kernel_rfl; exact rfl; exact rfl)
      | (apply EvO.loadBoxAgg; exact rfl; exact rfl; exact rfl; kernel_rfl; exact rfl; exact rfl; exact rfl)
      | (apply EvO.loadBox; exact rfl; exact rfl; exact rfl; exact rfl; kernel_rfl; exact rfl; exact rfl)
      | (apply EvO.loadRo; exact rfl; exact rfl; kernel_rfl; exact rfl; exact rfl)
      | (apply EvO.fldBox; exact rfl; exact rfl; ((with_reducible first | exact fl_28_0 | exact fl_28_1 | exact fl_28_3)); exact rfl; exact rfl; exact rfl)
      | (apply EvO.fldAddr; exact rfl; ((with_reducible first | exact fl_28_0 | exact fl_28_1 | exact fl_28_3)); exact rfl; exact rfl)
      | (apply EvO.fldRo; exact rfl; ((with_reducible first | exact fl_28_0 | exact fl_28_1 | exact fl_28_3)); exact rfl; exact rfl)
      | (apply EvO.boxAgg; exact rfl; kernel_rfl; exact rfl; exact rfl; exact rfl)
      | (apply EvO.call; exact (CallSpec.bF (s_DeviceOk _) h); exact rfl; exact rfl; exact rfl)
      | (apply Ev.condT; exact rfl)
      | (apply Ev.condF; exact rfl)
      | (apply Ev.cond; exact rfl; all_goals (intro hh; first | replace hh := of_decide_eq_true hh | replace hh := of_decide_eq_false hh | skip))
      | (apply EvO.gsplit; exact rfl; exact rfl; exact rfl; all_goals (intro hh; first | replace hh := of_decide_eq_true hh | replace hh := of_decide_eq_false hh | skip))
      | (apply EvO.move; exact rfl; exact rfl)
      | (apply EvO.assign; exact rfl; exact rfl)
      | refine Ev.ret ?_)
    all_goals (refine pvi ?_; omega)
set_option maxRecDepth 20000 in
set_option maxHeartbeats 1000000 in
theorem i_tileStep (d : Dev) (t dir s : Int) (h : d.tileOk t) (hd : 0 ≤ dir ∧ dir ≤ 3) (hs : 0 ≤ s ∧ s ≤ 6) : CallSpec Try.prog 37 [.agg (encDev d), .one (.int t), .one (.int dir), .one (.int s)] (.t (.int (d.step t dir s))) := by
  refine spec1 pm37 Try.func37 (by kernel_rfl) rfl Try.ntmps37 rfl Try.results37 rfl ?_
  intro B0 w0 S0
  have hb := h.1.b
  have hc := h.b
  have hd' : dir = 0 ∨ dir = 1 ∨ dir = 2 ∨ dir = 3 := by omega
  have e1 := rowBd (d := d) (y := t.tdiv d.W + s) h.1
  have e2 := rowBd (d := d) (y := t.tdiv d.W - s) h.1
  rcases hd' with rfl | rfl | rfl | rfl
  · repeat' (first
      | refine Ev.seq ?_
      | refine Ev.block ?_
      | refine Ev.region ?_
      | (apply Ev.draws; exact follows; kernel_rfl)
      | refine Ev.skip ?_
      | refine EvO.nil ?_
      | (apply EvO.moveT; exact rfl; exact rfl; exact rfl)
      | (apply EvO.moveAl; exact rfl; exact rfl; exact rfl)
      | (apply EvO.moveAgg; exact rfl; exact rfl; exact rfl)
      | (apply EvO.assignOwn; exact rfl; exact rfl; exact rfl; exact rfl; exact rfl)
      | (apply EvO.assignT; exact rfl; exact rfl; exact rfl)
      | (apply EvO.assignAl; exact rfl; exact rfl; exact rfl)
      | (apply EvO.assignAgg; exact rfl; exact rfl; exact rfl)
      | (apply EvO.add; exact rfl; exact rfl; omega; exact rfl; exact rfl)
      | (apply EvO.sub; exact rfl; exact rfl; omega; exact rfl; exact rfl)
      | (apply EvO.mul; exact rfl; exact rfl; (first | omega | (apply mul_bd <;> omega)); exact rfl; exact rfl)
      | (apply EvO.quo; exact rfl; exact rfl; omega; omega; exact rfl; exact rfl)
      | (apply EvO.rem; exact rfl; exact rfl; omega; exact rfl; exact rfl)
      | (apply EvO.eql; exact rfl; exact rfl; exact rfl; exact rfl)
      | (apply EvO.eqlB; exact rfl; exact rfl; kernel_rfl; exact rfl; exact rfl)
      | (apply EvO.notP; exact rfl; exact rfl; exact rfl)
      | (apply EvO.not; exact rfl; exact rfl; exact rfl)
      | (apply EvO.pickT; exact rfl; exact rfl; exact rfl; exact rfl)
      | (apply EvO.pickF; exact rfl; exact rfl; exact rfl; exact rfl)
      | (apply EvO.skip; exact rfl; exact rfl; exact rfl)
      | (apply EvO.loadI; exact rfl; exact rfl; omega; omega; kernel_rfl; exact rfl; exact rfl)
      | (apply EvO.loadOwn; exact rfl; exact rfl; exact rfl; exact rfl; exact rfl; kernel_rfl; exact rfl; exact rfl)
      | (apply EvO.loadBoxAgg; exact rfl; exact rfl; exact rfl; kernel_rfl; exact rfl; exact rfl; exact rfl)
      | (apply EvO.loadBox; exact rfl; exact rfl; exact rfl; exact rfl; kernel_rfl; exact rfl; exact rfl)
      | (apply EvO.loadRo; exact rfl; exact rfl; kernel_rfl; exact rfl; exact rfl)
      | (apply EvO.fldBox; exact rfl; exact rfl; ((with_reducible first | exact fl_28_0 | exact fl_28_1)); exact rfl; exact rfl; exact rfl)
      | (apply EvO.fldAddr; exact rfl; ((with_reducible first | exact fl_28_0 | exact fl_28_1)); exact rfl; exact rfl)
      | (apply EvO.fldRo; exact rfl; ((with_reducible first | exact fl_28_0 | exact fl_28_1)); exact rfl; exact rfl)
      | (apply EvO.boxAgg; exact rfl; kernel_rfl; exact rfl; exact rfl; exact rfl)
      | (apply EvO.call; exact (i_inRange _ _ _); exact rfl; exact rfl; exact rfl)
      | (apply Ev.condT; exact rfl)
      | (apply Ev.condF; exact rfl)
      | (apply Ev.cond; exact rfl; all_goals (intro hh; first | replace hh := of_decide_eq_true hh | replace hh := of_decide_eq_false hh | skip))
      | (apply EvO.gsplit; exact rfl; exact rfl; exact rfl; all_goals (intro hh; first | replace hh := of_decide_eq_true hh | replace hh := of_decide_eq_false hh | skip))
      | (apply EvO.move; exact rfl; exact rfl)
      | (apply EvO.assign; exact rfl; exact rfl)
      | refine Ev.ret ?_)
    all_goals (refine pvi ?_; rw [Dev.step0]; split <;> omega)
  · repeat' (first
      | refine Ev.seq ?_
      | refine Ev.block ?_
      | refine Ev.region ?_
      | (apply Ev.draws; exact follows; kernel_rfl)
      | refine Ev.skip ?_
      | refine EvO.nil ?_
      | (apply EvO.moveT; exact rfl; exact rfl; exact rfl)
      | (apply EvO.moveAl; exact rfl; exact rfl; exact rfl)
      | (apply EvO.moveAgg; exact rfl; exact rfl; exact rfl)
      | (apply EvO.assignOwn; exact rfl; exact rfl; exact rfl; exact rfl; exact rfl)
      | (apply EvO.assignT; exact rfl; exact rfl; exact rfl)
      | (apply EvO.assignAl; exact rfl; exact rfl; exact rfl)
      | (apply EvO.assignAgg; exact rfl; exact rfl; exact rfl)
      | (apply EvO.add; exact rfl; exact rfl; omega; exact rfl; exact rfl)
      | (apply EvO.sub; exact rfl; exact rfl; omega; exact rfl; exact rfl)
      | (apply EvO.mul; exact rfl; exact rfl; (first | omega | (apply mul_bd <;> omega)); exact rfl; exact rfl)
      | (apply EvO.quo; exact rfl; exact rfl; omega; omega; exact rfl; exact rfl)
      | (apply EvO.rem; exact rfl; exact rfl; omega; exact rfl; exact rfl)
      | (apply EvO.eql; exact rfl; exact rfl; exact rfl; exact rfl)
      | (apply EvO.eqlB; exact rfl; exact rfl; kernel_rfl; exact rfl; exact rfl)
      | (apply EvO.notP; exact rfl; exact rfl; exact rfl)
      | (apply EvO.not; exact rfl; exact rfl; exact rfl)
      | (apply EvO.pickT; exact rfl; exact rfl; exact rfl; exact rfl)
      | (apply EvO.pickF; exact rfl; exact rfl; exact rfl; exact rfl)
      | (apply EvO.skip; exact rfl; exact rfl; exact rfl)
      | (apply EvO.loadI; exact rfl; exact rfl; omega; omega; kernel_rfl; exact rfl; exact rfl)
      | (apply EvO.loadOwn; exact rfl; exact rfl; exact rfl; exact rfl; exact rfl; kernel_rfl; exact rfl; exact rfl)
      | (apply EvO.loadBoxAgg; exact rfl; exact rfl; exact rfl; kernel_rfl; exact rfl; exact rfl; exact rfl)
      | (apply EvO.loadBox; exact rfl; exact rfl; exact rfl; exact rfl; kernel_rfl; exact rfl; exact rfl)
      | (apply EvO.loadRo; exact rfl; exact rfl; kernel_rfl; exact rfl; exact rfl)
      | (apply EvO.fldBox; exact rfl; exact rfl; ((with_reducible first | exact fl_28_0 | exact fl_28_1)); exact rfl; exact rfl; exact rfl)
      | (apply EvO.fldAddr; exact rfl; ((with_reducible first | exact fl_28_0 | exact fl_28_1)); exact rfl; exact rfl)
      | (apply EvO.fldRo; exact rfl; ((with_reducible first | exact fl_28_0 | exact fl_28_1)); exact rfl; exact rfl)
      | (apply EvO.boxAgg; exact rfl; kernel_rfl; exact rfl; exact rfl; exact rfl)
      | (apply EvO.call; exact (i_inRange _ _ _); exact rfl; exact rfl; exact rfl)
      | (apply Ev.condT; exact rfl)
      | (apply Ev.condF; exact rfl)
      | (apply Ev.cond; exact rfl; all_goals (intro hh; first | replace hh := of_decide_eq_true hh | replace hh := of_decide_eq_false hh | skip))
      | (apply EvO.gsplit; exact rfl; exact rfl; exact rfl; all_goals (intro hh; first | replace hh := of_decide_eq_true hh | replace hh := of_decide_eq_false hh | skip))
      | (apply EvO.move; exact rfl; exact rfl)
      | (apply EvO.assign; exact rfl; exact rfl)
      | refine Ev.ret ?_)
    all_goals (refine pvi ?_; rw [Dev.step1]; split <;> omega)
  · repeat' (first
      | refine Ev.seq ?_
      | refine Ev.block ?_
      | refine Ev.region ?_
      | (apply Ev.draws; exact follows; kernel_rfl)
      | refine Ev.skip ?_
      | refine EvO.nil ?_
      | (apply EvO.moveT; exact rfl; exact rfl; exact rfl)
      | (apply EvO.moveAl; exact rfl; exact rfl; exact rfl)
      | (apply EvO.moveAgg; exact rfl; exact rfl; exact rfl)
      | (apply EvO.assignOwn; exact rfl; exact rfl; exact rfl; exact rfl; exact rfl)
      | (apply EvO.assignT; exact rfl; exact rfl; exact rfl)
      | (apply EvO.assignAl; exact rfl; exact rfl; exact rfl)
      | (apply EvO.assignAgg; exact rfl; exact rfl; exact rfl)
      | (apply EvO.add; exact rfl; exact rfl; omega; exact rfl; exact rfl)
      | (apply EvO.sub; exact rfl; exact rfl; omega; exact rfl; exact rfl)
      | (apply EvO.mul; exact rfl; exact rfl; (first | omega | (apply mul_bd <;> omega)); exact rfl; exact rfl)
      | (apply EvO.quo; exact rfl; exact rfl; omega; omega; exact rfl; exact rfl)
      | (apply EvO.rem; exact rfl; exact rfl; omega; exact rfl; exact rfl)
      | (apply EvO.eql; exact rfl; exact rfl; exact rfl; exact rfl)
      | (apply EvO.eqlB; exact rfl; exact rfl; kernel_rfl; exact rfl; exact rfl)
      | (apply EvO.notP; exact rfl; exact rfl; exact rfl)
      | (apply EvO.not; exact rfl; exact rfl; exact rfl)
      | (apply EvO.pickT; exact rfl; exact rfl; exact rfl; exact rfl)
      | (apply EvO.pickF; exact rfl; exact rfl; exact rfl; exact rfl)
      | (apply EvO.skip; exact rfl; exact rfl; exact rfl)
      | (apply EvO.loadI; exact rfl; exact rfl; omega; omega; kernel_rfl; exact rfl; exact rfl)
      | (apply EvO.loadOwn; exact rfl; exact rfl; exact rfl; exact rfl; exact rfl; kernel_rfl; exact rfl; exact rfl)
      | (apply EvO.loadBoxAgg; exact rfl; exact rfl; exact rfl; kernel_rfl; exact rfl; exact rfl; exact rfl)
      | (apply EvO.loadBox; exact rfl; exact rfl; exact rfl; exact rfl; kernel_rfl; exact rfl; exact rfl)
      | (apply EvO.loadRo; exact rfl; exact rfl; kernel_rfl; exact rfl; exact rfl)
      | (apply EvO.fldBox; exact rfl; exact rfl; ((with_reducible first | exact fl_28_0 | exact fl_28_1)); exact rfl; exact rfl; exact rfl)
      | (apply EvO.fldAddr; exact rfl; ((with_reducible first | exact fl_28_0 | exact fl_28_1)); exact rfl; exact rfl)
      | (apply EvO.fldRo; exact rfl; ((with_reducible first | exact fl_28_0 | exact fl_28_1)); exact rfl; exact rfl)
      | (apply EvO.boxAgg; exact rfl; kernel_rfl; exact rfl; exact rfl; exact rfl)
      | (apply EvO.call; exact (i_inRange _ _ _); exact rfl; exact rfl; exact rfl)
      | (apply Ev.condT; exact rfl)
      | (apply Ev.condF; exact rfl)
      | (apply Ev.cond; exact rfl; all_goals (intro hh; first | replace hh := of_decide_eq_true hh | replace hh := of_decide_eq_false hh | skip))
      | (apply EvO.gsplit; exact rfl; exact rfl; exact rfl; all_goals (intro hh; first | replace hh := of_decide_eq_true hh | replace hh := of_decide_eq_false hh | skip))
      | (apply EvO.move; exact rfl; exact rfl)
      | (apply EvO.assign; exact rfl; exact rfl)
      | refine Ev.ret ?_)
    all_goals (refine pvi ?_; rw [Dev.step2]; split <;> omega)
  · repeat' (first
      | refine Ev.seq ?_
      | refine Ev.block ?_
      | refine Ev.region ?_
      | (apply Ev.draws; exact follows; kernel_rfl)
      | refine Ev.skip ?_
      | refine EvO.nil ?_
      | (apply EvO.moveT; exact rfl; exact rfl; exact rfl)
      | (apply EvO.moveAl; exact rfl; exact rfl; exact rfl)
      | (apply EvO.moveAgg; exact rfl; exact rfl; exact rfl)
      | (apply EvO.assignOwn; exact rfl; exact rfl; exact rfl; exact rfl; exact rfl)
      | (apply EvO.assignT; exact rfl; exact rfl; exact rfl)
      | (apply EvO.assignAl; exact rfl; exact rfl; exact rfl)
      | (apply EvO.assignAgg; exact rfl; exact rfl; exact rfl)
      | (apply EvO.add; exact rfl; exact rfl; omega; exact rfl; exact rfl)
      | (apply EvO.sub; exact rfl; exact rfl; omega; exact rfl; exact rfl)
      | (apply EvO.mul; exact rfl; exact rfl; (first | omega | (apply mul_bd <;> omega)); exact rfl; exact rfl)
      | (apply EvO.quo; exact rfl; exact rfl; omega; omega; exact rfl; exact rfl)
      | (apply EvO.rem; exact rfl; exact rfl; omega; exact rfl; exact rfl)
      | (apply EvO.eql; exact rfl; exact rfl; exact rfl; exact rfl)
      | (apply EvO.eqlB; exact rfl; exact rfl; kernel_rfl; exact rfl; exact rfl)
      | (apply EvO.notP; exact rfl; exact rfl; exact rfl)
      | (apply EvO.not; exact rfl; exact rfl; exact rfl)
      | (apply EvO.pickT; exact rfl; exact rfl; exact rfl; exact rfl)
      | (apply EvO.pickF; exact rfl; exact rfl; exact rfl; exact rfl)
      | (apply EvO.skip; exact rfl; exact rfl; exact rfl)
      | (apply EvO.loadI; exact rfl; exact rfl; omega; omega; kernel_rfl; exact rfl; exact rfl)
      | (apply EvO.loadOwn; exact rfl; exact rfl; exact rfl; exact rfl; exact rfl; kernel_rfl; exact rfl; exact rfl)
      | (apply EvO.loadBoxAgg; exact rfl; exact rfl; exact rfl; kernel_rfl; exact rfl; exact rfl; exact rfl)
      | (apply EvO.loadBox; exact rfl; exact rfl; exact rfl; exact rfl; kernel_rfl; exact rfl; exact rfl)
      | (apply EvO.loadRo; exact rfl; exact rfl; kernel_rfl; exact rfl; exact rfl)
      | (apply EvO.fldBox; exact rfl; exact rfl; ((with_reducible first | exact fl_28_0 | exact fl_28_1)); exact rfl; exact rfl; exact rfl)
      | (apply EvO.fldAddr; exact rfl; ((with_reducible first | exact fl_28_0 | exact fl_28_1)); exact rfl; exact rfl)
      | (apply EvO.fldRo; exact rfl; ((with_reducible first | exact fl_28_0 | exact fl_28_1)); exact rfl; exact rfl)
      | (apply EvO.boxAgg; exact rfl; kernel_rfl; exact rfl; exact rfl; exact rfl)
      | (apply EvO.call; exact (i_inRange _ _ _); exact rfl; exact rfl; exact rfl)
      | (apply Ev.condT; exact rfl)
      | (apply Ev.condF; exact rfl)
      | (apply Ev.cond; exact rfl; all_goals (intro hh; first | replace hh := of_decide_eq_true hh | replace hh := of_decide_eq_false hh | skip))
      | (apply EvO.gsplit; exact rfl; exact rfl; exact rfl; all_goals (intro hh; first | replace hh := of_decide_eq_true hh | replace hh := of_decide_eq_false hh | skip))
      | (apply EvO.move; exact rfl; exact rfl)
      | (apply EvO.assign; exact rfl; exact rfl)
      | refine Ev.ret ?_)
    all_goals (refine pvi ?_; rw [Dev.step3]; split <;> omega)
set_option maxRecDepth 20000 in
set_option maxHeartbeats 1000000 in
theorem s_TileStep (d : Dev) (t dir s : Int) : CallSpec Try.prog 34 [.agg (encDev d), .one (.int t), .one (.int dir), .one (.int s)] (.t (.int (if d.tileOk t ∧ (0 ≤ dir ∧ dir ≤ 3) ∧ (0 ≤ s ∧ s ≤ 6) then d.step t dir s else -1))) := by
  refine spec1 pm34 Try.func34 (by kernel_rfl) rfl Try.ntmps34 rfl Try.results34 rfl ?_
  intro B0 w0 S0
  by_cases h : d.tileOk t
  · have hb := h.1.b
    have hc := h.b
    have hk := d.kindBd t
    by_cases hd : 0 ≤ dir ∧ dir ≤ 3
    · by_cases hs : 0 ≤ s ∧ s ≤ 6
      · rw [if_pos ⟨h, hd, hs⟩]
        have hd' : dir = 0 ∨ dir = 1 ∨ dir = 2 ∨ dir = 3 := by omega
        have e1 := rowBd (d := d) (y := t.tdiv d.W + s) h.1
        have e2 := rowBd (d := d) (y := t.tdiv d.W - s) h.1
        have e3 := rowBd (d := d) (y := t.tdiv d.W + 0 * s) h.1
        have e4 := rowBd (d := d) (y := t.tdiv d.W + 1 * s) h.1
        have e5 := rowBd (d := d) (y := t.tdiv d.W + -1 * s) h.1
        rcases hd' with rfl | rfl | rfl | rfl
        · repeat' (first
            | refine Ev.seq ?_
            | refine Ev.region ?_
            | (apply Ev.draws; exact follows; kernel_rfl)
            | refine Ev.skip ?_
            | refine EvO.nil ?_
            | (apply EvO.moveT; exact rfl; exact rfl; exact rfl)
            | (apply EvO.moveAl; exact rfl; exact rfl; exact rfl)
            | (apply EvO.moveAgg; exact rfl; exact rfl; exact rfl)
            | (apply EvO.assignOwn; exact rfl; exact rfl; exact rfl; exact rfl; exact rfl)
            | (apply EvO.assignT; exact rfl; exact rfl; exact rfl)
            | (apply EvO.assignAl; exact rfl; exact rfl; exact rfl)
            | (apply EvO.assignAgg; exact rfl; exact rfl; exact rfl)
            | (apply EvO.add; exact rfl; exact rfl; omega; exact rfl; exact rfl)
            | (apply EvO.sub; exact rfl; exact rfl; omega; exact rfl; exact rfl)
            | (apply EvO.mul; exact rfl; exact rfl; (first | omega | (apply mul_bd <;> omega)); exact rfl; exact rfl)
            | (apply EvO.quo; exact rfl; exact rfl; omega; omega; exact rfl; exact rfl)
            | (apply EvO.rem; exact rfl; exact rfl; omega; exact rfl; exact rfl)
            | (apply EvO.lss; exact rfl; exact rfl; exact rfl; exact rfl)
            | (apply EvO.notP; exact rfl; exact rfl; exact rfl)
            | (apply EvO.not; exact rfl; exact rfl; exact rfl)
            | (apply EvO.pickT; exact rfl; exact rfl; exact rfl; exact rfl)
            | (apply EvO.pickF; exact rfl; exact rfl; exact rfl; exact rfl)
            | (apply EvO.skip; exact rfl; exact rfl; exact rfl)
            | (apply EvO.loadI; exact rfl; exact rfl; omega; omega; kernel_rfl; exact rfl; exact rfl)
            | (apply EvO.loadOwn; exact rfl; exact rfl; exact rfl; exact rfl; exact rfl; kernel_rfl; exact rfl; exact rfl)
            | (apply EvO.loadBoxAgg; exact rfl; exact rfl; exact rfl; kernel_rfl; exact rfl; exact rfl; exact rfl)
            | (apply EvO.loadBox; exact rfl; exact rfl; exact rfl; exact rfl; kernel_rfl; exact rfl; exact rfl)
            | (apply EvO.loadRo; exact rfl; exact rfl; kernel_rfl; exact rfl; exact rfl)
            | (apply EvO.fldBox; exact rfl; exact rfl; ((with_reducible first | exact fl_28_0 | exact fl_28_1)); exact rfl; exact rfl; exact rfl)
            | (apply EvO.fldAddr; exact rfl; ((with_reducible first | exact fl_28_0 | exact fl_28_1)); exact rfl; exact rfl)
            | (apply EvO.fldRo; exact rfl; ((with_reducible first | exact fl_28_0 | exact fl_28_1)); exact rfl; exact rfl)
            | (apply EvO.boxAgg; exact rfl; kernel_rfl; exact rfl; exact rfl; exact rfl)
            | (apply EvO.idxRoI; exact rfl; exact rfl; omega; omega; ((with_reducible first | exact es_26)); exact rfl; exact rfl)
            | (apply EvO.idxRo; exact rfl; exact rfl; omega; (first | assumption | exact rfl); exact rfl; ((with_reducible first | exact es_26)); exact rfl; exact rfl)
            | (apply EvO.idxOwn; exact rfl; exact rfl; exact rfl; omega; (first | omega | (simp <;> omega)); ((with_reducible first | exact el_26)); exact rfl; exact rfl)
            | (apply EvO.call; exact (CallSpec.pT (s_TileKind _ _) h); exact rfl; exact rfl; exact rfl)
            | (apply EvO.call; exact (CallSpec.bT (s_l01In _ _ _) hd); exact rfl; exact rfl; exact rfl)
            | (apply EvO.call; exact (CallSpec.bT (s_l01In _ _ _) hs); exact rfl; exact rfl; exact rfl)
            | (apply EvO.buildSlice (els := [[.int _], [.int _], [.int _], [.int _]]); exact rfl; exact rfl; exact rfl; ((with_reducible first | exact el_26)); ((with_reducible first | exact zr_3)); ((with_reducible first | exact sz_3)); exact rfl; exact rfl; exact rfl; exact rfl; exact rfl; exact rfl; exact rfl)
            | (apply EvO.call; exact (s_l01In _ _ _); exact rfl; exact rfl; exact rfl)
            | (apply Ev.condT; exact rfl)
            | (apply Ev.condF; exact rfl)
            | (apply Ev.cond; exact rfl; all_goals (intro hh; first | replace hh := of_decide_eq_true hh | replace hh := of_decide_eq_false hh | skip))
            | (apply EvO.gsplit; exact rfl; exact rfl; exact rfl; all_goals (intro hh; first | replace hh := of_decide_eq_true hh | replace hh := of_decide_eq_false hh | skip))
            | (apply EvO.move; exact rfl; exact rfl)
            | (apply EvO.assign; exact rfl; exact rfl)
            | refine Ev.ret ?_)
          all_goals first | (exfalso; omega) | (refine pvi ?_; rw [Dev.step0]; simp only [Int.zero_mul, Int.one_mul, Int.neg_mul, ← Int.sub_eq_add_neg, Int.add_zero] at *; split <;> omega)
        · repeat' (first
            | refine Ev.seq ?_
            | refine Ev.region ?_
            | (apply Ev.draws; exact follows; kernel_rfl)
            | refine Ev.skip ?_
            | refine EvO.nil ?_
            | (apply EvO.moveT; exact rfl; exact rfl; exact rfl)
            | (apply EvO.moveAl; exact rfl; exact rfl; exact rfl)
            | (apply EvO.moveAgg; exact rfl; exact rfl; exact rfl)
            | (apply EvO.assignOwn; exact rfl; exact rfl; exact rfl; exact rfl; exact rfl)
            | (apply EvO.assignT; exact rfl; exact rfl; exact rfl)
            | (apply EvO.assignAl; exact rfl; exact rfl; exact rfl)
            | (apply EvO.assignAgg; exact rfl; exact rfl; exact rfl)
            | (apply EvO.add; exact rfl; exact rfl; omega; exact rfl; exact rfl)
            | (apply EvO.sub; exact rfl; exact rfl; omega; exact rfl; exact rfl)
            | (apply EvO.mul; exact rfl; exact rfl; (first | omega | (apply mul_bd <;> omega)); exact rfl; exact rfl)
            | (apply EvO.quo; exact rfl; exact rfl; omega; omega; exact rfl; exact rfl)
            | (apply EvO.rem; exact rfl; exact rfl; omega; exact rfl; exact rfl)
            | (apply EvO.lss; exact rfl; exact rfl; exact rfl; exact rfl)
            | (apply EvO.notP; exact rfl; exact rfl; exact rfl)
            | (apply EvO.not; exact rfl; exact rfl; exact rfl)
            | (apply EvO.pickT; exact rfl; exact rfl; exact rfl; exact rfl)
            | (apply EvO.pickF; exact rfl; exact rfl; exact rfl; exact rfl)
            | (apply EvO.skip; exact rfl; exact rfl; exact rfl)
            | (apply EvO.loadI; exact rfl; exact rfl; omega; omega; kernel_rfl; exact rfl; exact rfl)
            | (apply EvO.loadOwn; exact rfl; exact rfl; exact rfl; exact rfl; exact rfl; kernel_rfl; exact rfl; exact rfl)
            | (apply EvO.loadBoxAgg; exact rfl; exact rfl; exact rfl; kernel_rfl; exact rfl; exact rfl; exact rfl)
            | (apply EvO.loadBox; exact rfl; exact rfl; exact rfl; exact rfl; kernel_rfl; exact rfl; exact rfl)
            | (apply EvO.loadRo; exact rfl; exact rfl; kernel_rfl; exact rfl; exact rfl)
            | (apply EvO.fldBox; exact rfl; exact rfl; ((with_reducible first | exact fl_28_0 | exact fl_28_1)); exact rfl; exact rfl; exact rfl)
            | (apply EvO.fldAddr; exact rfl; ((with_reducible first | exact fl_28_0 | exact fl_28_1)); exact rfl; exact rfl)
            | (apply EvO.fldRo; exact rfl; ((with_reducible first | exact fl_28_0 | exact fl_28_1)); exact rfl; exact rfl)
            | (apply EvO.boxAgg; exact rfl; kernel_rfl; exact rfl; exact rfl; exact rfl)
            | (apply EvO.idxRoI; exact rfl; exact rfl; omega; omega; ((with_reducible first | exact es_26)); exact rfl; exact rfl)
            | (apply EvO.idxRo; exact rfl; exact rfl; omega; (first | assumption | exact rfl); exact rfl; ((with_reducible first | exact es_26)); exact rfl; exact rfl)
            | (apply EvO.idxOwn; exact rfl; exact rfl; exact rfl; omega; (first | omega | (simp <;> omega)); ((with_reducible first | exact el_26)); exact rfl; exact rfl)
            | (apply EvO.call; exact (CallSpec.pT (s_TileKind _ _) h); exact rfl; exact rfl; exact rfl)
            | (apply EvO.call; exact (CallSpec.bT (s_l01In _ _ _) hd); exact rfl; exact rfl; exact rfl)
            | (apply EvO.call; exact (CallSpec.bT (s_l01In _ _ _) hs); exact rfl; exact rfl; exact rfl)
            | (apply EvO.buildSlice (els := [[.int _], [.int _], [.int _], [.int _]]); exact rfl; exact rfl; exact rfl; ((with_reducible first | exact el_26)); ((with_reducible first | exact zr_3)); ((with_reducible first | exact sz_3)); exact rfl; exact rfl; exact rfl; exact rfl; exact rfl; exact rfl; exact rfl)
            | (apply EvO.call; exact (s_l01In _ _ _); exact rfl; exact rfl; exact rfl)
            | (apply Ev.condT; exact rfl)
            | (apply Ev.condF; exact rfl)
            | (apply Ev.cond; exact rfl; all_goals (intro hh; first | replace hh := of_decide_eq_true hh | replace hh := of_decide_eq_false hh | skip))
            | (apply EvO.gsplit; exact rfl; exact rfl; exact rfl; all_goals (intro hh; first | replace hh := of_decide_eq_true hh | replace hh := of_decide_eq_false hh | skip))
            | (apply EvO.move; exact rfl; exact rfl)
            | (apply EvO.assign; exact rfl; exact rfl)
            | refine Ev.ret ?_)
          all_goals first | (exfalso; omega) | (refine pvi ?_; rw [Dev.step1]; simp only [Int.zero_mul, Int.one_mul, Int.neg_mul, ← Int.sub_eq_add_neg, Int.add_zero] at *; split <;> omega)
        · repeat' (first
            | refine Ev.seq ?_
            | refine Ev.region ?_
            | (apply Ev.draws; exact follows; kernel_rfl)
            | refine Ev.skip ?_
            | refine EvO.nil ?_
            | (apply EvO.moveT; exact rfl; exact rfl; exact rfl)
            | (apply EvO.moveAl; exact rfl; exact rfl; exact rfl)
            | (apply EvO.moveAgg; exact rfl; exact rfl; exact rfl)
            | (apply EvO.assignOwn; exact rfl; exact rfl; exact rfl; exact rfl; exact rfl)
            | (apply EvO.assignT; exact rfl; exact rfl; exact rfl)
            | (apply EvO.assignAl; exact rfl; exact rfl; exact rfl)
            | (apply EvO.assignAgg; exact rfl; exact rfl; exact rfl)
            | (apply EvO.add; exact rfl; exact rfl; omega; exact rfl; exact rfl)
            | (apply EvO.sub; exact rfl; exact rfl; omega; exact rfl; exact rfl)
            | (apply EvO.mul; exact rfl; exact rfl; (first | omega | (apply mul_bd <;> omega)); exact rfl; exact rfl)
            | (apply EvO.quo; exact rfl; exact rfl; omega; omega; exact rfl; exact rfl)
            | (apply EvO.rem; exact rfl; exact rfl; omega; exact rfl; exact rfl)
            | (apply EvO.lss; exact rfl; exact rfl; exact rfl; exact rfl)
            | (apply EvO.notP; exact rfl; exact rfl; exact rfl)
            | (apply EvO.not; exact rfl; exact rfl; exact rfl)
            | (apply EvO.pickT; exact rfl; exact rfl; exact rfl; exact rfl)
            | (apply EvO.pickF; exact rfl; exact rfl; exact rfl; exact rfl)
            | (apply EvO.skip; exact rfl; exact rfl; exact rfl)
            | (apply EvO.loadI; exact rfl; exact rfl; omega; omega; kernel_rfl; exact rfl; exact rfl)
            | (apply EvO.loadOwn; exact rfl; exact rfl; exact rfl; exact rfl; exact rfl; kernel_rfl; exact rfl; exact rfl)
            | (apply EvO.loadBoxAgg; exact rfl; exact rfl; exact rfl; kernel_rfl; exact rfl; exact rfl; exact rfl)
            | (apply EvO.loadBox; exact rfl; exact rfl; exact rfl; exact rfl; kernel_rfl; exact rfl; exact rfl)
            | (apply EvO.loadRo; exact rfl; exact rfl; kernel_rfl; exact rfl; exact rfl)
            | (apply EvO.fldBox; exact rfl; exact rfl; ((with_reducible first | exact fl_28_0 | exact fl_28_1)); exact rfl; exact rfl; exact rfl)
            | (apply EvO.fldAddr; exact rfl; ((with_reducible first | exact fl_28_0 | exact fl_28_1)); exact rfl; exact rfl)
            | (apply EvO.fldRo; exact rfl; ((with_reducible first | exact fl_28_0 | exact fl_28_1)); exact rfl; exact rfl)
            | (apply EvO.boxAgg; exact rfl; kernel_rfl; exact rfl; exact rfl; exact rfl)
            | (apply EvO.idxRoI; exact rfl; exact rfl; omega; omega; ((with_reducible first | exact es_26)); exact rfl; exact rfl)
            | (apply EvO.idxRo; exact rfl; exact rfl; omega; (first | assumption | exact rfl); exact rfl; ((with_reducible first | exact es_26)); exact rfl; exact rfl)
            | (apply EvO.idxOwn; exact rfl; exact rfl; exact rfl; omega; (first | omega | (simp <;> omega)); ((with_reducible first | exact el_26)); exact rfl; exact rfl)
            | (apply EvO.call; exact (CallSpec.pT (s_TileKind _ _) h); exact rfl; exact rfl; exact rfl)
            | (apply EvO.call; exact (CallSpec.bT (s_l01In _ _ _) hd); exact rfl; exact rfl; exact rfl)
            | (apply EvO.call; exact (CallSpec.bT (s_l01In _ _ _) hs); exact rfl; exact rfl; exact rfl)
            | (apply EvO.buildSlice (els := [[.int _], [.int _], [.int _], [.int _]]); exact rfl; exact rfl; exact rfl; ((with_reducible first | exact el_26)); ((with_reducible first | exact zr_3)); ((with_reducible first | exact sz_3)); exact rfl; exact rfl; exact rfl; exact rfl; exact rfl; exact rfl; exact rfl)
            | (apply EvO.call; exact (s_l01In _ _ _); exact rfl; exact rfl; exact rfl)
            | (apply Ev.condT; exact rfl)
            | (apply Ev.condF; exact rfl)
            | (apply Ev.cond; exact rfl; all_goals (intro hh; first | replace hh := of_decide_eq_true hh | replace hh := of_decide_eq_false hh | skip))
            | (apply EvO.gsplit; exact rfl; exact rfl; exact rfl; all_goals (intro hh; first | replace hh := of_decide_eq_true hh | replace hh := of_decide_eq_false hh | skip))
            | (apply EvO.move; exact rfl; exact rfl)
            | (apply EvO.assign; exact rfl; exact rfl)
            | refine Ev.ret ?_)
          all_goals first | (exfalso; omega) | (refine pvi ?_; rw [Dev.step2]; simp only [Int.zero_mul, Int.one_mul, Int.neg_mul, ← Int.sub_eq_add_neg, Int.add_zero] at *; split <;> omega)
        · repeat' (first
            | refine Ev.seq ?_
            | refine Ev.region ?_
            | (apply Ev.draws; exact follows; kernel_rfl)
            | refine Ev.skip ?_
            | refine EvO.nil ?_
            | (apply EvO.moveT; exact rfl; exact rfl; exact rfl)
            | (apply EvO.moveAl; exact rfl; exact rfl; exact rfl)
            | (apply EvO.moveAgg; exact rfl; exact rfl; exact rfl)
            | (apply EvO.assignOwn; exact rfl; exact rfl; exact rfl; exact rfl; exact rfl)
            | (apply EvO.assignT; exact rfl; exact rfl; exact rfl)
            | (apply EvO.assignAl; exact rfl; exact rfl; exact rfl)
            | (apply EvO.assignAgg; exact rfl; exact rfl; exact rfl)
            | (apply EvO.add; exact rfl; exact rfl; omega; exact rfl; exact rfl)
            | (apply EvO.sub; exact rfl; exact rfl; omega; exact rfl; exact rfl)
            | (apply EvO.mul; exact rfl; exact rfl; (first | omega | (apply mul_bd <;> omega)); exact rfl; exact rfl)
            | (apply EvO.quo; exact rfl; exact rfl; omega; omega; exact rfl; exact rfl)
            | (apply EvO.rem; exact rfl; exact rfl; omega; exact rfl; exact rfl)
            | (apply EvO.lss; exact rfl; exact rfl; exact rfl; exact rfl)
            | (apply EvO.notP; exact rfl; exact rfl; exact rfl)
            | (apply EvO.not; exact rfl; exact rfl; exact rfl)
            | (apply EvO.pickT; exact rfl; exact rfl; exact rfl; exact rfl)
            | (apply EvO.pickF; exact rfl; exact rfl; exact rfl; exact rfl)
            | (apply EvO.skip; exact rfl; exact rfl; exact rfl)
            | (apply EvO.loadI; exact rfl; exact rfl; omega; omega; kernel_rfl; exact rfl; exact rfl)
            | (apply EvO.loadOwn; exact rfl; exact rfl; exact rfl; exact rfl; exact rfl; kernel_rfl; exact rfl; exact rfl)
            | (apply EvO.loadBoxAgg; exact rfl; exact rfl; exact rfl; kernel_rfl; exact rfl; exact rfl; exact rfl)
            | (apply EvO.loadBox; exact rfl; exact rfl; exact rfl; exact rfl; kernel_rfl; exact rfl; exact rfl)
            | (apply EvO.loadRo; exact rfl; exact rfl; kernel_rfl; exact rfl; exact rfl)
            | (apply EvO.fldBox; exact rfl; exact rfl; ((with_reducible first | exact fl_28_0 | exact fl_28_1)); exact rfl; exact rfl; exact rfl)
            | (apply EvO.fldAddr; exact rfl; ((with_reducible first | exact fl_28_0 | exact fl_28_1)); exact rfl; exact rfl)
            | (apply EvO.fldRo; exact rfl; ((with_reducible first | exact fl_28_0 | exact fl_28_1)); exact rfl; exact rfl)
            | (apply EvO.boxAgg; exact rfl; kernel_rfl; exact rfl; exact rfl; exact rfl)
            | (apply EvO.idxRoI; exact rfl; exact rfl; omega; omega; ((with_reducible first | exact es_26)); exact rfl; exact rfl)
            | (apply EvO.idxRo; exact rfl; exact rfl; omega; (first | assumption | exact rfl); exact rfl; ((with_reducible first | exact es_26)); exact rfl; exact rfl)
            | (apply EvO.idxOwn; exact rfl; exact rfl; exact rfl; omega; (first | omega | (simp <;> omega)); ((with_reducible first | exact el_26)); exact rfl; exact rfl)
            | (apply EvO.call; exact (CallSpec.pT (s_TileKind _ _) h); exact rfl; exact rfl; exact rfl)
            | (apply EvO.call; exact (CallSpec.bT (s_l01In _ _ _) hd); exact rfl; exact rfl; exact rfl)
            | (apply EvO.call; exact (CallSpec.bT (s_l01In _ _ _) hs); exact rfl; exact rfl; exact rfl)
            | (apply EvO.buildSlice (els := [[.int _], [.int _], [.int _], [.int _]]); exact rfl; exact rfl; exact rfl; ((with_reducible first | exact el_26)); ((with_reducible first | exact zr_3)); ((with_reducible first | exact sz_3)); exact rfl; exact rfl; exact rfl; exact rfl; exact rfl; exact rfl; exact rfl)
            | (apply EvO.call; exact (s_l01In _ _ _); exact rfl; exact rfl; exact rfl)
            | (apply Ev.condT; exact rfl)
            | (apply Ev.condF; exact rfl)
            | (apply Ev.cond; exact rfl; all_goals (intro hh; first | replace hh := of_decide_eq_true hh | replace hh := of_decide_eq_false hh | skip))
            | (apply EvO.gsplit; exact rfl; exact rfl; exact rfl; all_goals (intro hh; first | replace hh := of_decide_eq_true hh | replace hh := of_decide_eq_false hh | skip))
            | (apply EvO.move; exact rfl; exact rfl)
            | (apply EvO.assign; exact rfl; exact rfl)
            | refine Ev.ret ?_)
          all_goals first | (exfalso; omega) | (refine pvi ?_; rw [Dev.step3]; simp only [Int.zero_mul, Int.one_mul, Int.neg_mul, ← Int.sub_eq_add_neg, Int.add_zero] at *; split <;> omega)
      · rw [if_neg (fun e => hs e.2.2)]
        repeat' (first
          | refine Ev.seq ?_
          | refine Ev.region ?_
          | (apply Ev.draws; exact follows; kernel_rfl)
          | refine Ev.skip ?_
          | refine EvO.nil ?_
          | (apply EvO.moveT; exact rfl; exact rfl; exact rfl)
          | (apply EvO.moveAl; exact rfl; exact rfl; exact rfl)
          | (apply EvO.moveAgg; exact rfl; exact rfl; exact rfl)
          | (apply EvO.assignOwn; exact rfl; exact rfl; exact rfl; exact rfl; exact rfl)
          | (apply EvO.assignT; exact rfl; exact rfl; exact rfl)
          | (apply EvO.assignAl; exact rfl; exact rfl; exact rfl)
          | (apply EvO.assignAgg; exact rfl; exact rfl; exact rfl)
          | (apply EvO.add; exact rfl; exact rfl; omega; exact rfl; exact rfl)
          | (apply EvO.sub; exact rfl; exact rfl; omega; exact rfl; exact rfl)
          | (apply EvO.mul; exact rfl; exact rfl; (first | omega | (apply mul_bd <;> omega)); exact rfl; exact rfl)
          | (apply EvO.quo; exact rfl; exact rfl; omega; omega; exact rfl; exact rfl)
          | (apply EvO.rem; exact rfl; exact rfl; omega; exact rfl; exact rfl)
          | (apply EvO.lss; exact rfl; exact rfl; exact rfl; exact rfl)
          | (apply EvO.notP; exact rfl; exact rfl; exact rfl)
          | (apply EvO.not; exact rfl; exact rfl; exact rfl)
          | (apply EvO.pickT; exact rfl; exact rfl; exact rfl; exact rfl)
          | (apply EvO.pickF; exact rfl; exact rfl; exact rfl; exact rfl)
          | (apply EvO.skip; exact rfl; exact rfl; exact rfl)
          | (apply EvO.loadI; exact rfl; exact rfl; omega; omega; kernel_rfl; exact rfl; exact rfl)
          | (apply EvO.loadOwn; exact rfl; exact rfl; exact rfl; exact rfl; exact rfl; kernel_rfl; exact rfl; exact rfl)
          | (apply EvO.loadBoxAgg; exact rfl; exact rfl; exact rfl; kernel_rfl; exact rfl; exact rfl; exact rfl)
          | (apply EvO.loadBox; exact rfl; exact rfl; exact rfl; exact rfl; kernel_rfl; exact rfl; exact rfl)
          | (apply EvO.loadRo; exact rfl; exact rfl; kernel_rfl; exact rfl; exact rfl)
          | (apply EvO.fldBox; exact rfl; exact rfl; ((with_reducible first | exact fl_28_0 | exact fl_28_1)); exact rfl; exact rfl; exact rfl)
          | (apply EvO.fldAddr; exact rfl; ((with_reducible first | exact fl_28_0 | exact fl_28_1)); exact rfl; exact rfl)
          | (apply EvO.fldRo; exact rfl; ((with_reducible first | exact fl_28_0 | exact fl_28_1)); exact rfl; exact rfl)
          | (apply EvO.boxAgg; exact rfl; kernel_rfl; exact rfl; exact rfl; exact rfl)
          | (apply EvO.idxRoI; exact rfl; exact rfl; omega; omega; ((with_reducible first | exact es_26)); exact rfl; exact rfl)
          | (apply EvO.idxRo; exact rfl; exact rfl; omega; (first | assumption | exact rfl); exact rfl; ((with_reducible first | exact es_26)); exact rfl; exact rfl)
          | (apply EvO.idxOwn; exact rfl; exact rfl; exact rfl; omega; (first | omega | (simp <;> omega)); ((with_reducible first | exact el_26)); exact rfl; exact rfl)
          | (apply EvO.call; exact (CallSpec.pT (s_TileKind _ _) h); exact rfl; exact rfl; exact rfl)
          | (apply EvO.call; exact (CallSpec.bT (s_l01In _ _ _) hd); exact rfl; exact rfl; exact rfl)
          | (apply EvO.buildSlice (els := [[.int _], [.int _], [.int _], [.int _]]); exact rfl; exact rfl; exact rfl; ((with_reducible first | exact el_26)); ((with_reducible first | exact zr_3)); ((with_reducible first | exact sz_3)); exact rfl; exact rfl; exact rfl; exact rfl; exact rfl; exact rfl; exact rfl)
          | (apply EvO.call; exact (CallSpec.bF (s_l01In _ _ _) hs); exact rfl; exact rfl; exact rfl)
          | (apply Ev.condT; exact rfl)
          | (apply Ev.condF; exact rfl)
          | (apply Ev.cond; exact rfl; all_goals (intro hh; first | replace hh := of_decide_eq_true hh | replace hh := of_decide_eq_false hh | skip))
          | (apply EvO.gsplit; exact rfl; exact rfl; exact rfl; all_goals (intro hh; first | replace hh := of_decide_eq_true hh | replace hh := of_decide_eq_false hh | skip))
          | (apply EvO.move; exact rfl; exact rfl)
          | (apply EvO.assign; exact rfl; exact rfl)
          | refine Ev.ret ?_)
        all_goals first | (exfalso; omega) | rfl
    · rw [if_neg (fun e => hd e.2.1)]
      repeat' (first
        | refine Ev.seq ?_
        | refine Ev.region ?_
        | (apply Ev.draws; exact follows; kernel_rfl)
        | refine Ev.skip ?_
        | refine EvO.nil ?_
        | (apply EvO.moveT; exact rfl; exact rfl; exact rfl)
        | (apply EvO.moveAl; exact rfl; exact rfl; exact rfl)
        | (apply EvO.moveAgg; exact rfl; exact rfl; exact rfl)
        | (apply EvO.assignOwn; exact rfl; exact rfl; exact rfl; exact rfl; exact rfl)
        | (apply EvO.assignT; exact rfl; exact rfl; exact rfl)
        | (apply EvO.assignAl; exact rfl; exact rfl; exact rfl)
        | (apply EvO.assignAgg; exact rfl; exact rfl; exact rfl)
        | (apply EvO.add; exact rfl; exact rfl; omega; exact rfl; exact rfl)
        | (apply EvO.sub; exact rfl; exact rfl; omega; exact rfl; exact rfl)
        | (apply EvO.mul; exact rfl; exact rfl; (first | omega | (apply mul_bd <;> omega)); exact rfl; exact rfl)
        | (apply EvO.quo; exact rfl; exact rfl; omega; omega; exact rfl; exact rfl)
        | (apply EvO.rem; exact rfl; exact rfl; omega; exact rfl; exact rfl)
        | (apply EvO.lss; exact rfl; exact rfl; exact rfl; exact rfl)
        | (apply EvO.notP; exact rfl; exact rfl; exact rfl)
        | (apply EvO.not; exact rfl; exact rfl; exact rfl)
        | (apply EvO.pickT; exact rfl; exact rfl; exact rfl; exact rfl)
        | (apply EvO.pickF; exact rfl; exact rfl; exact rfl; exact rfl)
        | (apply EvO.skip; exact rfl; exact rfl; exact rfl)
        | (apply EvO.loadI; exact rfl; exact rfl; omega; omega; kernel_rfl; exact rfl; exact rfl)
        | (apply EvO.loadOwn; exact rfl; exact rfl; exact rfl; exact rfl; exact rfl; kernel_rfl; exact rfl; exact rfl)
        | (apply EvO.loadBoxAgg; exact rfl; exact rfl; exact rfl; kernel_rfl; exact rfl; exact rfl; exact rfl)
        | (apply EvO.loadBox; exact rfl; exact rfl; exact rfl; exact rfl; kernel_rfl; exact rfl; exact rfl)
        | (apply EvO.loadRo; exact rfl; exact rfl; kernel_rfl; exact rfl; exact rfl)
        | (apply EvO.fldBox; exact rfl; exact rfl; ((with_reducible first | exact fl_28_0 | exact fl_28_1)); exact rfl; exact rfl; exact rfl)
        | (apply EvO.fldAddr; exact rfl; ((with_reducible first | exact fl_28_0 | exact fl_28_1)); exact rfl; exact rfl)
        | (apply EvO.fldRo; exact rfl; ((with_reducible first | exact fl_28_0 | exact fl_28_1)); exact rfl; exact rfl)
        | (apply EvO.boxAgg; exact rfl; kernel_rfl; exact rfl; exact rfl; exact rfl)
        | (apply EvO.idxRoI; exact rfl; exact rfl; omega; omega; ((with_reducible first | exact es_26)); exact rfl; exact rfl)
        | (apply EvO.idxRo; exact rfl; exact rfl; omega; (first | assumption | exact rfl); exact rfl; ((with_reducible first | exact es_26)); exact rfl; exact rfl)
        | (apply EvO.idxOwn; exact rfl; exact rfl; exact rfl; omega; (first | omega | (simp <;> omega)); ((with_reducible first | exact el_26)); exact rfl; exact rfl)
        | (apply EvO.call; exact (CallSpec.pT (s_TileKind _ _) h); exact rfl; exact rfl; exact rfl)
        | (apply EvO.buildSlice (els := [[.int _], [.int _], [.int _], [.int _]]); exact rfl; exact rfl; exact rfl; ((with_reducible first | exact el_26)); ((with_reducible first | exact zr_3)); ((with_reducible first | exact sz_3)); exact rfl; exact rfl; exact rfl; exact rfl; exact rfl; exact rfl; exact rfl)
        | (apply EvO.call; exact (CallSpec.bF (s_l01In _ _ _) hd); exact rfl; exact rfl; exact rfl)
        | (apply Ev.condT; exact rfl)
        | (apply Ev.condF; exact rfl)
        | (apply Ev.cond; exact rfl; all_goals (intro hh; first | replace hh := of_decide_eq_true hh | replace hh := of_decide_eq_false hh | skip))
        | (apply EvO.gsplit; exact rfl; exact rfl; exact rfl; all_goals (intro hh; first | replace hh := of_decide_eq_true hh | replace hh := of_decide_eq_false hh | skip))
        | (apply EvO.move; exact rfl; exact rfl)
        | (apply EvO.assign; exact rfl; exact rfl)
        | refine Ev.ret ?_)
      all_goals first | (exfalso; omega) | rfl
  · rw [if_neg (fun e => h e.1)]
    repeat' (first
      | refine Ev.seq ?_
      | refine Ev.region ?_
      | (apply Ev.draws; exact follows; kernel_rfl)
      | refine Ev.skip ?_
      | refine EvO.nil ?_
      | (apply EvO.moveT; exact rfl; exact rfl; exact rfl)
      | (apply EvO.moveAl; exact rfl; exact rfl; exact rfl)
      | (apply EvO.moveAgg; exact rfl; exact rfl; exact rfl)
      | (apply EvO.assignOwn; exact rfl; exact rfl; exact rfl; exact rfl; exact rfl)
      | (apply EvO.assignT; exact rfl; exact rfl; exact rfl)
      | (apply EvO.assignAl; exact rfl; exact rfl; exact rfl)
      | (apply EvO.assignAgg; exact rfl; exact rfl; exact rfl)
      | (apply EvO.add; exact rfl; exact rfl; omega; exact rfl; exact rfl)
      | (apply EvO.sub; exact rfl; exact rfl; omega; exact rfl; exact rfl)
      | (apply EvO.mul; exact rfl; exact rfl; (first | omega | (apply mul_bd <;> omega)); exact rfl; exact rfl)
      | (apply EvO.quo; exact rfl; exact rfl; omega; omega; exact rfl; exact rfl)
      | (apply EvO.rem; exact rfl; exact rfl; omega; exact rfl; exact rfl)
      | (apply EvO.lss; exact rfl; exact rfl; exact rfl; exact rfl)
      | (apply EvO.notP; exact rfl; exact rfl; exact rfl)
      | (apply EvO.not; exact rfl; exact rfl; exact rfl)
      | (apply EvO.pickT; exact rfl; exact rfl; exact rfl; exact rfl)
      | (apply EvO.pickF; exact rfl; exact rfl; exact rfl; exact rfl)
      | (apply EvO.skip; exact rfl; exact rfl; exact rfl)
      | (apply EvO.loadI; exact rfl; exact rfl; omega; omega; kernel_rfl; exact rfl; exact rfl)
      | (apply EvO.loadOwn; exact rfl; exact rfl; exact rfl; exact rfl; exact rfl; kernel_rfl; exact rfl; exact rfl)
      | (apply EvO.loadBoxAgg; exact rfl; exact rfl; exact rfl; kernel_rfl; exact rfl; exact rfl; exact rfl)
      | (apply EvO.loadBox; exact rfl; exact rfl; exact rfl; exact rfl; kernel_rfl; exact rfl; exact rfl)
      | (apply EvO.loadRo; exact rfl; exact rfl; kernel_rfl; exact rfl; exact rfl)
      | (apply EvO.fldBox; exact rfl; exact rfl; ((with_reducible first | exact fl_28_0 | exact fl_28_1)); exact rfl; exact rfl; exact rfl)
      | (apply EvO.fldAddr; exact rfl; ((with_reducible first | exact fl_28_0 | exact fl_28_1)); exact rfl; exact rfl)
      | (apply EvO.fldRo; exact rfl; ((with_reducible first | exact fl_28_0 | exact fl_28_1)); exact rfl; exact rfl)
      | (apply EvO.boxAgg; exact rfl; kernel_rfl; exact rfl; exact rfl; exact rfl)
      | (apply EvO.idxRoI; exact rfl; exact rfl; omega; omega; ((with_reducible first | exact es_26)); exact rfl; exact rfl)
      | (apply EvO.idxRo; exact rfl; exact rfl; omega; (first | assumption | exact rfl); exact rfl; ((with_reducible first | exact es_26)); exact rfl; exact rfl)
      | (apply EvO.idxOwn; exact rfl; exact rfl; exact rfl; omega; (first | omega | (simp <;> omega)); ((with_reducible first | exact el_26)); exact rfl; exact rfl)
      | (apply EvO.buildSlice (els := [[.int _], [.int _], [.int _], [.int _]]); exact rfl; exact rfl; exact rfl; ((with_reducible first | exact el_26)); ((with_reducible first | exact zr_3)); ((with_reducible first | exact sz_3)); exact rfl; exact rfl; exact rfl; exact rfl; exact rfl; exact rfl; exact rfl)
      | (apply EvO.call; exact (CallSpec.pF (s_TileKind _ _) h); exact rfl; exact rfl; exact rfl)
      | (apply Ev.condT; exact rfl)
      | (apply Ev.condF; exact rfl)
      | (apply Ev.cond; exact rfl; all_goals (intro hh; first | replace hh := of_decide_eq_true hh | replace hh := of_decide_eq_false hh | skip))
      | (apply EvO.gsplit; exact rfl; exact rfl; exact rfl; all_goals (intro hh; first | replace hh := of_decide_eq_true hh | replace hh := of_decide_eq_false hh | skip))
      | (apply EvO.move; exact rfl; exact rfl)
      | (apply EvO.assign; exact rfl; exact rfl)
      | refine Ev.ret ?_)
    all_goals first | (exfalso; omega) | rfl
def Dev.per (d : Dev) : Int := 7 + 4 * d.T
theorem tmod2 {k : Int} (h : 0 ≤ k) : 0 ≤ k.tmod 2 ∧ k.tmod 2 ≤ 1 := by
  have h2 : 0 ≤ k.tmod 2 := Int.tmod_nonneg _ h
  have h3 : k.tmod 2 < 2 := Int.tmod_lt_of_pos _ (by omega)
  omega
theorem inPinsBd (k : Int) : 0 ≤ inPins k ∧ inPins k ≤ 5 := by unfold inPins; split <;> (try split) <;> (try split) <;> omega
theorem outPinsBd (k : Int) : 0 ≤ outPins k ∧ outPins k ≤ 2 := by unfold outPins; split <;> (try split) <;> (try split) <;> omega
theorem inPinsNeg : inPins (-1) = 0 := by unfold inPins; simp
theorem Dev.stepBd {d : Dev} {t : Int} (h : d.tileOk t) (dir s : Int) : -1 ≤ d.step t dir s ∧ d.step t dir s ≤ 35 := by
  unfold Dev.step
  split
  · rename_i hh
    have e := rowBd (d := d) (y := t.tdiv d.W + sY s dir) h.1 hh.2.1 hh.2.2
    have := h.1.b
    omega
  · omega
@[irreducible] def Dev.wireNode (d : Dev) (t dir k : Int) : Int :=
  if d.tileOk t ∧ (0 ≤ dir ∧ dir ≤ 3) ∧ (0 ≤ k ∧ k ≤ d.T - 1) ∧ 0 ≤ d.step t dir (1 + k.tmod 2) then t * d.per + 7 + dir * d.T + k else -1
@[irreducible] def Dev.inPin (d : Dev) (t p : Int) : Int :=
  if d.tileOk t ∧ (0 ≤ p ∧ p ≤ inPins (d.kind t) - 1) then t * d.per + p else -1
@[irreducible] def Dev.outPin (d : Dev) (t p : Int) : Int :=
  if d.tileOk t ∧ (0 ≤ p ∧ p ≤ outPins (d.kind t) - 1) then t * d.per + 5 + p else -1
theorem Dev.perBd {d : Dev} {t : Int} (h : d.tileOk t) : 0 ≤ t * d.per ∧ t * d.per ≤ 805 := by
  have hb := h.1.b
  have hc := h.b
  refine ⟨Int.mul_nonneg hc.2.2.1 (by unfold Dev.per; omega), ?_⟩
  have h3 : t * d.per ≤ t * 23 := Int.mul_le_mul_of_nonneg_left (by unfold Dev.per; omega) hc.2.2.1
  omega
set_option maxRecDepth 20000 in
set_option maxHeartbeats 1000000 in
theorem i_perTile (d : Dev) (h : d.ok) : CallSpec Try.prog 39 [.agg (encDev d)] (.t (.int d.per)) := by
  refine spec1 (fun _ => []) Try.func39 (by kernel_rfl) rfl Try.ntmps39 rfl Try.results39 rfl ?_
  intro B0 w0 S0
  have hb := h.b
  repeat' (first
    | refine Ev.seq ?_
    | refine Ev.region ?_
    | refine Ev.skip ?_
    | refine EvO.nil ?_
    | (apply EvO.assignOwn; exact rfl; exact rfl; exact rfl; exact rfl; exact rfl)
    | (apply EvO.assignT; exact rfl; exact rfl; exact rfl)
    | (apply EvO.assignAl; exact rfl; exact rfl; exact rfl)
    | (apply EvO.assignAgg; exact rfl; exact rfl; exact rfl)
    | (apply EvO.add; exact rfl; exact rfl; omega; exact rfl; exact rfl)
    | (apply EvO.mul; exact rfl; exact rfl; (first | omega | (apply mul_bd <;> omega)); exact rfl; exact rfl)
    | (apply EvO.loadI; exact rfl; exact rfl; omega; omega; kernel_rfl; exact rfl; exact rfl)
    | (apply EvO.loadOwn; exact rfl; exact rfl; exact rfl; exact rfl; exact rfl; kernel_rfl; exact rfl; exact rfl)
    | (apply EvO.loadBoxAgg; exact rfl; exact rfl; exact rfl; kernel_rfl; exact rfl; exact rfl; exact rfl)
    | (apply EvO.loadBox; exact rfl; exact rfl; exact rfl; exact rfl; kernel_rfl; exact rfl; exact rfl)
    | (apply EvO.loadRo; exact rfl; exact rfl; kernel_rfl; exact rfl; exact rfl)
    | (apply EvO.fldBox; exact rfl; exact rfl; ((with_reducible first | exact fl_28_2)); exact rfl; exact rfl; exact rfl)
    | (apply EvO.fldAddr; exact rfl; ((with_reducible first | exact fl_28_2)); exact rfl; exact rfl)
    | (apply EvO.fldRo; exact rfl; ((with_reducible first | exact fl_28_2)); exact rfl; exact rfl)
    | (apply EvO.boxAgg; exact rfl; kernel_rfl; exact rfl; exact rfl; exact rfl)
    | (apply EvO.assign; exact rfl; exact rfl)
    | refine Ev.ret ?_)
  all_goals rfl
set_option maxRecDepth 20000 in
set_option maxHeartbeats 1000000 in
theorem s_l27Per (d : Dev) (h : d.ok) : CallSpec Try.prog 35 [.agg (encDev d)] (.t (.int d.per)) := by
  refine spec1 (fun _ => []) Try.func35 (by kernel_rfl) rfl Try.ntmps35 rfl Try.results35 rfl ?_
  intro B0 w0 S0
  have hb := h.b
  repeat' (first
    | refine Ev.seq ?_
    | refine Ev.region ?_
    | refine Ev.skip ?_
    | refine EvO.nil ?_
    | (apply EvO.assignOwn; exact rfl; exact rfl; exact rfl; exact rfl; exact rfl)
    | (apply EvO.assignT; exact rfl; exact rfl; exact rfl)
    | (apply EvO.assignAl; exact rfl; exact rfl; exact rfl)
    | (apply EvO.assignAgg; exact rfl; exact rfl; exact rfl)
    | (apply EvO.add; exact rfl; exact rfl; omega; exact rfl; exact rfl)
    | (apply EvO.mul; exact rfl; exact rfl; (first | omega | (apply mul_bd <;> omega)); exact rfl; exact rfl)
    | (apply EvO.loadI; exact rfl; exact rfl; omega; omega; kernel_rfl; exact rfl; exact rfl)
    | (apply EvO.loadOwn; exact rfl; exact rfl; exact rfl; exact rfl; exact rfl; kernel_rfl; exact rfl; exact rfl)
    | (apply EvO.loadBoxAgg; exact rfl; exact rfl; exact rfl; kernel_rfl; exact rfl; exact rfl; exact rfl)
    | (apply EvO.loadBox; exact rfl; exact rfl; exact rfl; exact rfl; kernel_rfl; exact rfl; exact rfl)
    | (apply EvO.loadRo; exact rfl; exact rfl; kernel_rfl; exact rfl; exact rfl)
    | (apply EvO.fldBox; exact rfl; exact rfl; ((with_reducible first | exact fl_28_2)); exact rfl; exact rfl; exact rfl)
    | (apply EvO.fldAddr; exact rfl; ((with_reducible first | exact fl_28_2)); exact rfl; exact rfl)
    | (apply EvO.fldRo; exact rfl; ((with_reducible first | exact fl_28_2)); exact rfl; exact rfl)
    | (apply EvO.boxAgg; exact rfl; kernel_rfl; exact rfl; exact rfl; exact rfl)
    | (apply EvO.assign; exact rfl; exact rfl)
    | refine Ev.ret ?_)
  all_goals rfl
set_option maxRecDepth 20000 in
set_option maxHeartbeats 1000000 in
theorem i_wireLength (k : Int) (h : 0 ≤ k) : CallSpec Try.prog 38 [.one (.int k)] (.t (.int (1 + k.tmod 2))) := by
  refine spec1 (fun _ => []) Try.func38 (by kernel_rfl) rfl Try.ntmps38 rfl Try.results38 rfl ?_
  intro B0 w0 S0
  have hb := tmod2 h
  repeat' (first
    | refine Ev.seq ?_
    | refine Ev.region ?_
    | refine Ev.skip ?_
    | refine EvO.nil ?_
    | (apply EvO.moveT; exact rfl; exact rfl; exact rfl)
    | (apply EvO.moveAl; exact rfl; exact rfl; exact rfl)
    | (apply EvO.moveAgg; exact rfl; exact rfl; exact rfl)
    | (apply EvO.assignOwn; exact rfl; exact rfl; exact rfl; exact rfl; exact rfl)
    | (apply EvO.assignT; exact rfl; exact rfl; exact rfl)
    | (apply EvO.assignAl; exact rfl; exact rfl; exact rfl)
    | (apply EvO.assignAgg; exact rfl; exact rfl; exact rfl)
    | (apply EvO.add; exact rfl; exact rfl; omega; exact rfl; exact rfl)
    | (apply EvO.rem; exact rfl; exact rfl; omega; exact rfl; exact rfl)
    | (apply EvO.move; exact rfl; exact rfl)
    | (apply EvO.assign; exact rfl; exact rfl)
    | refine Ev.ret ?_)
  all_goals rfl
set_option maxRecDepth 20000 in
set_option maxHeartbeats 1000000 in
theorem i_InPin (d : Dev) (t p : Int) : CallSpec Try.prog 21 [.agg (encDev d), .one (.int t), .one (.int p)] (.t (.int (d.inPin t p))) := by
  refine spec1 (fun _ => []) Try.func21 (by kernel_rfl) rfl Try.ntmps21 rfl Try.results21 rfl ?_
  intro B0 w0 S0
  unfold Dev.inPin
  by_cases h : d.tileOk t
  · have hb := h.1.b
    have hc := h.b
    have hk := inPinsBd (d.kind t)
    have hp := Dev.perBd h
    have hp2 : 7 ≤ d.per ∧ d.per ≤ 23 := by unfold Dev.per; omega
    by_cases h2 : 0 ≤ p ∧ p ≤ inPins (d.kind t) - 1
    · rw [if_pos ⟨h, h2⟩]
      repeat' (first
        | refine Ev.seq ?_
        | refine Ev.region ?_
        | refine Ev.skip ?_
        | refine EvO.nil ?_
        | (apply EvO.moveT; exact rfl; exact rfl; exact rfl)
        | (apply EvO.moveAl; exact rfl; exact rfl; exact rfl)
        | (apply EvO.moveAgg; exact rfl; exact rfl; exact rfl)
        | (apply EvO.assignOwn; exact rfl; exact rfl; exact rfl; exact rfl; exact rfl)
        | (apply EvO.assignT; exact rfl; exact rfl; exact rfl)
        | (apply EvO.assignAl; exact rfl; exact rfl; exact rfl)
        | (apply EvO.assignAgg; exact rfl; exact rfl; exact rfl)
        | (apply EvO.add; exact rfl; exact rfl; omega; exact rfl; exact rfl)
        | (apply EvO.sub; exact rfl; exact rfl; omega; exact rfl; exact rfl)
        | (apply EvO.mul; exact rfl; exact rfl; (first | omega | (apply mul_bd <;> omega)); exact rfl; exact rfl)
        | (apply EvO.notP; exact rfl; exact rfl; exact rfl)
        | (apply EvO.not; exact rfl; exact rfl; exact rfl)
        | (apply EvO.pickT; exact rfl; exact rfl; exact rfl; exact rfl)
        | (apply EvO.pickF; exact rfl; exact rfl; exact rfl; exact rfl)
        | (apply EvO.skip; exact rfl; exact rfl; exact rfl)
        | (apply EvO.loadI; exact rfl; exact rfl; omega; omega; kernel_rfl; exact rfl; exact rfl)
        | (apply EvO.loadOwn; exact rfl; exact rfl; exact rfl; exact rfl; exact rfl; kernel_rfl; exact rfl; exact rfl)
        | (apply EvO.loadBoxAgg; exact rfl; exact rfl; exact rfl; kernel_rfl; exact rfl; exact rfl; exact rfl)
        | (apply EvO.loadBox; exact rfl; exact rfl; exact rfl; exact rfl; kernel_rfl; exact rfl; exact rfl)
        | (apply EvO.loadRo; exact rfl; exact rfl; kernel_rfl; exact rfl; exact rfl)
        | (apply EvO.boxAgg; exact rfl; kernel_rfl; exact rfl; exact rfl; exact rfl)
        | (apply EvO.call; exact (CallSpec.bT (i_tileOk _ _) h); exact rfl; exact rfl; exact rfl)
        | (apply EvO.call; exact (i_tileKind _ _ h); exact rfl; exact rfl; exact rfl)
        | (apply EvO.call; exact (i_InPins _); exact rfl; exact rfl; exact rfl)
        | (apply EvO.call; exact (CallSpec.bT (i_inRange _ _ _) h2); exact rfl; exact rfl; exact rfl)
        | (apply EvO.call; exact (i_perTile _ h.1); exact rfl; exact rfl; exact rfl)
        | (apply Ev.condT; exact rfl)
        | (apply Ev.condF; exact rfl)
        | (apply Ev.cond; exact rfl; all_goals (intro hh; first | replace hh := of_decide_eq_true hh | replace hh := of_decide_eq_false hh | skip))
        | (apply EvO.gsplit; exact rfl; exact rfl; exact rfl; all_goals (intro hh; first | replace hh := of_decide_eq_true hh | replace hh := of_decide_eq_false hh | skip))
        | (apply EvO.move; exact rfl; exact rfl)
        | (apply EvO.assign; exact rfl; exact rfl)
        | refine Ev.ret ?_)
      all_goals rfl
    · rw [if_neg (fun e => h2 e.2)]
      repeat' (first
        | refine Ev.seq ?_
        | refine Ev.region ?_
        | refine Ev.skip ?_
        | refine EvO.nil ?_
        | (apply EvO.moveT; exact rfl; exact rfl; exact rfl)
        | (apply EvO.moveAl; exact rfl; exact rfl; exact rfl)
        | (apply EvO.moveAgg; exact rfl; exact rfl; exact rfl)
        | (apply EvO.assignOwn; exact rfl; exact rfl; exact rfl; exact rfl; exact rfl)
        | (apply EvO.assignT; exact rfl; exact rfl; exact rfl)
        | (apply EvO.assignAl; exact rfl; exact rfl; exact rfl)
        | (apply EvO.assignAgg; exact rfl; exact rfl; exact rfl)
        | (apply EvO.add; exact rfl; exact rfl; omega; exact rfl; exact rfl)
        | (apply EvO.sub; exact rfl; exact rfl; omega; exact rfl; exact rfl)
        | (apply EvO.mul; exact rfl; exact rfl; (first | omega | (apply mul_bd <;> omega)); exact rfl; exact rfl)
        | (apply EvO.notP; exact rfl; exact rfl; exact rfl)
        | (apply EvO.not; exact rfl; exact rfl; exact rfl)
        | (apply EvO.pickT; exact rfl; exact rfl; exact rfl; exact rfl)
        | (apply EvO.pickF; exact rfl; exact rfl; exact rfl; exact rfl)
        | (apply EvO.skip; exact rfl; exact rfl; exact rfl)
        | (apply EvO.loadI; exact rfl; exact rfl; omega; omega; kernel_rfl; exact rfl; exact rfl)
        | (apply EvO.loadOwn; exact rfl; exact rfl; exact rfl; exact rfl; exact rfl; kernel_rfl; exact rfl; exact rfl)
        | (apply EvO.loadBoxAgg; exact rfl; exact rfl; exact rfl; kernel_rfl; exact rfl; exact rfl; exact rfl)
        | (apply EvO.loadBox; exact rfl; exact rfl; exact rfl; exact rfl; kernel_rfl; exact rfl; exact rfl)
        | (apply EvO.loadRo; exact rfl; exact rfl; kernel_rfl; exact rfl; exact rfl)
        | (apply EvO.boxAgg; exact rfl; kernel_rfl; exact rfl; exact rfl; exact rfl)
        | (apply EvO.call; exact (CallSpec.bT (i_tileOk _ _) h); exact rfl; exact rfl; exact rfl)
        | (apply EvO.call; exact (i_tileKind _ _ h); exact rfl; exact rfl; exact rfl)
        | (apply EvO.call; exact (i_InPins _); exact rfl; exact rfl; exact rfl)
        | (apply EvO.call; exact (CallSpec.bF (i_inRange _ _ _) h2); exact rfl; exact rfl; exact rfl)
        | (apply Ev.condT; exact rfl)
        | (apply Ev.condF; exact rfl)
        | (apply Ev.cond; exact rfl; all_goals (intro hh; first | replace hh := of_decide_eq_true hh | replace hh := of_decide_eq_false hh | skip))
        | (apply EvO.gsplit; exact rfl; exact rfl; exact rfl; all_goals (intro hh; first | replace hh := of_decide_eq_true hh | replace hh := of_decide_eq_false hh | skip))
        | (apply EvO.move; exact rfl; exact rfl)
        | (apply EvO.assign; exact rfl; exact rfl)
        | refine Ev.ret ?_)
      all_goals rfl
  · rw [if_neg (fun e => h e.1)]
    repeat' (first
      | refine Ev.seq ?_
      | refine Ev.region ?_
      | refine Ev.skip ?_
      | refine EvO.nil ?_
      | (apply EvO.moveT; exact rfl; exact rfl; exact rfl)
      | (apply EvO.moveAl; exact rfl; exact rfl; exact rfl)
      | (apply EvO.moveAgg; exact rfl; exact rfl; exact rfl)
      | (apply EvO.assignOwn; exact rfl; exact rfl; exact rfl; exact rfl; exact rfl)
      | (apply EvO.assignT; exact rfl; exact rfl; exact rfl)
      | (apply EvO.assignAl; exact rfl; exact rfl; exact rfl)
      | (apply EvO.assignAgg; exact rfl; exact rfl; exact rfl)
      | (apply EvO.add; exact rfl; exact rfl; omega; exact rfl; exact rfl)
      | (apply EvO.sub; exact rfl; exact rfl; omega; exact rfl; exact rfl)
      | (apply EvO.mul; exact rfl; exact rfl; (first | omega | (apply mul_bd <;> omega)); exact rfl; exact rfl)
      | (apply EvO.notP; exact rfl; exact rfl; exact rfl)
      | (apply EvO.not; exact rfl; exact rfl; exact rfl)
      | (apply EvO.pickT; exact rfl; exact rfl; exact rfl; exact rfl)
      | (apply EvO.pickF; exact rfl; exact rfl; exact rfl; exact rfl)
      | (apply EvO.skip; exact rfl; exact rfl; exact rfl)
      | (apply EvO.loadI; exact rfl; exact rfl; omega; omega; kernel_rfl; exact rfl; exact rfl)
      | (apply EvO.loadOwn; exact rfl; exact rfl; exact rfl; exact rfl; exact rfl; kernel_rfl; exact rfl; exact rfl)
      | (apply EvO.loadBoxAgg; exact rfl; exact rfl; exact rfl; kernel_rfl; exact rfl; exact rfl; exact rfl)
      | (apply EvO.loadBox; exact rfl; exact rfl; exact rfl; exact rfl; kernel_rfl; exact rfl; exact rfl)
      | (apply EvO.loadRo; exact rfl; exact rfl; kernel_rfl; exact rfl; exact rfl)
      | (apply EvO.boxAgg; exact rfl; kernel_rfl; exact rfl; exact rfl; exact rfl)
      | (apply EvO.call; exact (CallSpec.bF (i_tileOk _ _) h); exact rfl; exact rfl; exact rfl)
      | (apply Ev.condT; exact rfl)
      | (apply Ev.condF; exact rfl)
      | (apply Ev.cond; exact rfl; all_goals (intro hh; first | replace hh := of_decide_eq_true hh | replace hh := of_decide_eq_false hh | skip))
      | (apply EvO.gsplit; exact rfl; exact rfl; exact rfl; all_goals (intro hh; first | replace hh := of_decide_eq_true hh | replace hh := of_decide_eq_false hh | skip))
      | (apply EvO.move; exact rfl; exact rfl)
      | (apply EvO.assign; exact rfl; exact rfl)
      | refine Ev.ret ?_)
    all_goals rfl
set_option maxRecDepth 20000 in
set_option maxHeartbeats 1000000 in
theorem s_InPin (d : Dev) (t p : Int) : CallSpec Try.prog 20 [.agg (encDev d), .one (.int t), .one (.int p)] (.t (.int (d.inPin t p))) := by
  refine spec1 (fun _ => []) Try.func20 (by kernel_rfl) rfl Try.ntmps20 rfl Try.results20 rfl ?_
  intro B0 w0 S0
  unfold Dev.inPin
  by_cases h : d.tileOk t
  · have hb := h.1.b
    have hc := h.b
    have hk := inPinsBd (d.kind t)
    have hp := Dev.perBd h
    have hp2 : 7 ≤ d.per ∧ d.per ≤ 23 := by unfold Dev.per; omega
    by_cases h2 : 0 ≤ p ∧ p ≤ inPins (d.kind t) - 1
    · rw [if_pos ⟨h, h2⟩]
      repeat' (first
        | refine Ev.seq ?_
        | refine Ev.region ?_
        | refine Ev.skip ?_
        | refine EvO.nil ?_
        | (apply EvO.moveT; exact rfl; exact rfl; exact rfl)
        | (apply EvO.moveAl; exact rfl; exact rfl; exact rfl)
        | (apply EvO.moveAgg; exact rfl; exact rfl; exact rfl)
        | (apply EvO.assignOwn; exact rfl; exact rfl; exact rfl; exact rfl; exact rfl)
        | (apply EvO.assignT; exact rfl; exact rfl; exact rfl)
        | (apply EvO.assignAl; exact rfl; exact rfl; exact rfl)
        | (apply EvO.assignAgg; exact rfl; exact rfl; exact rfl)
        | (apply EvO.add; exact rfl; exact rfl; omega; exact rfl; exact rfl)
        | (apply EvO.mul; exact rfl; exact rfl; (first | omega | (apply mul_bd <;> omega)); exact rfl; exact rfl)
        | (apply EvO.lss; exact rfl; exact rfl; exact rfl; exact rfl)
        | (apply EvO.geq; exact rfl; exact rfl; exact rfl; exact rfl)
        | (apply EvO.pickT; exact rfl; exact rfl; exact rfl; exact rfl)
        | (apply EvO.pickF; exact rfl; exact rfl; exact rfl; exact rfl)
        | (apply EvO.skip; exact rfl; exact rfl; exact rfl)
        | (apply EvO.loadI; exact rfl; exact rfl; omega; omega; kernel_rfl; exact rfl; exact rfl)
        | (apply EvO.loadOwn; exact rfl; exact rfl; exact rfl; exact rfl; exact rfl; kernel_rfl; exact rfl; exact rfl)
        | (apply EvO.loadBoxAgg; exact rfl; exact rfl; exact rfl; kernel_rfl; exact rfl; exact rfl; exact rfl)
        | (apply EvO.loadBox; exact rfl; exact rfl; exact rfl; exact rfl; kernel_rfl; exact rfl; exact rfl)
        | (apply EvO.loadRo; exact rfl; exact rfl; kernel_rfl; exact rfl; exact rfl)
        | (apply EvO.boxAgg; exact rfl; kernel_rfl; exact rfl; exact rfl; exact rfl)
        | (apply EvO.call; exact (CallSpec.pT (s_TileKind _ _) h); exact rfl; exact rfl; exact rfl)
        | (apply EvO.call; exact (s_InPins _); exact rfl; exact rfl; exact rfl)
        | (apply EvO.call; exact (s_l27Per _ h.1); exact rfl; exact rfl; exact rfl)
        | (apply Ev.condT; exact rfl)
        | (apply Ev.condF; exact rfl)
        | (apply Ev.cond; exact rfl; all_goals (intro hh; first | replace hh := of_decide_eq_true hh | replace hh := of_decide_eq_false hh | skip))
        | (apply EvO.gsplit; exact rfl; exact rfl; exact rfl; all_goals (intro hh; first | replace hh := of_decide_eq_true hh | replace hh := of_decide_eq_false hh | skip))
        | (apply EvO.move; exact rfl; exact rfl)
        | (apply EvO.assign; exact rfl; exact rfl)
        | refine Ev.ret ?_)
      all_goals first | (exfalso; omega) | rfl
    · rw [if_neg (fun e => h2 e.2)]
      repeat' (first
        | refine Ev.seq ?_
        | refine Ev.region ?_
        | refine Ev.skip ?_
        | refine EvO.nil ?_
        | (apply EvO.moveT; exact rfl; exact rfl; exact rfl)
        | (apply EvO.moveAl; exact rfl; exact rfl; exact rfl)
        | (apply EvO.moveAgg; exact rfl; exact rfl; exact rfl)
        | (apply EvO.assignOwn; exact rfl; exact rfl; exact rfl; exact rfl; exact rfl)
        | (apply EvO.assignT; exact rfl; exact rfl; exact rfl)
        | (apply EvO.assignAl; exact rfl; exact rfl; exact rfl)
        | (apply EvO.assignAgg; exact rfl; exact rfl; exact rfl)
        | (apply EvO.add; exact rfl; exact rfl; omega; exact rfl; exact rfl)
        | (apply EvO.mul; exact rfl; exact rfl; (first | omega | (apply mul_bd <;> omega)); exact rfl; exact rfl)
        | (apply EvO.lss; exact rfl; exact rfl; exact rfl; exact rfl)
        | (apply EvO.geq; exact rfl; exact rfl; exact rfl; exact rfl)
        | (apply EvO.pickT; exact rfl; exact rfl; exact rfl; exact rfl)
        | (apply EvO.pickF; exact rfl; exact rfl; exact rfl; exact rfl)
        | (apply EvO.skip; exact rfl; exact rfl; exact rfl)
        | (apply EvO.loadI; exact rfl; exact rfl; omega; omega; kernel_rfl; exact rfl; exact rfl)
        | (apply EvO.loadOwn; exact rfl; exact rfl; exact rfl; exact rfl; exact rfl; kernel_rfl; exact rfl; exact rfl)
        | (apply EvO.loadBoxAgg; exact rfl; exact rfl; exact rfl; kernel_rfl; exact rfl; exact rfl; exact rfl)
        | (apply EvO.loadBox; exact rfl; exact rfl; exact rfl; exact rfl; kernel_rfl; exact rfl; exact rfl)
        | (apply EvO.loadRo; exact rfl; exact rfl; kernel_rfl; exact rfl; exact rfl)
        | (apply EvO.boxAgg; exact rfl; kernel_rfl; exact rfl; exact rfl; exact rfl)
        | (apply EvO.call; exact (CallSpec.pT (s_TileKind _ _) h); exact rfl; exact rfl; exact rfl)
        | (apply EvO.call; exact (s_InPins _); exact rfl; exact rfl; exact rfl)
        | (apply EvO.call; exact (s_l27Per _ h.1); exact rfl; exact rfl; exact rfl)
        | (apply Ev.condT; exact rfl)
        | (apply Ev.condF; exact rfl)
        | (apply Ev.cond; exact rfl; all_goals (intro hh; first | replace hh := of_decide_eq_true hh | replace hh := of_decide_eq_false hh | skip))
        | (apply EvO.gsplit; exact rfl; exact rfl; exact rfl; all_goals (intro hh; first | replace hh := of_decide_eq_true hh | replace hh := of_decide_eq_false hh | skip))
        | (apply EvO.move; exact rfl; exact rfl)
        | (apply EvO.assign; exact rfl; exact rfl)
        | refine Ev.ret ?_)
      all_goals first | (exfalso; omega) | rfl
  · rw [if_neg (fun e => h e.1)]
    have e := inPinsNeg
    repeat' (first
      | refine Ev.seq ?_
      | refine Ev.region ?_
      | refine Ev.skip ?_
      | refine EvO.nil ?_
      | (apply EvO.moveT; exact rfl; exact rfl; exact rfl)
      | (apply EvO.moveAl; exact rfl; exact rfl; exact rfl)
      | (apply EvO.moveAgg; exact rfl; exact rfl; exact rfl)
      | (apply EvO.assignOwn; exact rfl; exact rfl; exact rfl; exact rfl; exact rfl)
      | (apply EvO.assignT; exact rfl; exact rfl; exact rfl)
      | (apply EvO.assignAl; exact rfl; exact rfl; exact rfl)
      | (apply EvO.assignAgg; exact rfl; exact rfl; exact rfl)
      | (apply EvO.add; exact rfl; exact rfl; omega; exact rfl; exact rfl)
      | (apply EvO.mul; exact rfl; exact rfl; (first | omega | (apply mul_bd <;> omega)); exact rfl; exact rfl)
      | (apply EvO.lss; exact rfl; exact rfl; exact rfl; exact rfl)
      | (apply EvO.geq; exact rfl; exact rfl; exact rfl; exact rfl)
      | (apply EvO.pickT; exact rfl; exact rfl; exact rfl; exact rfl)
      | (apply EvO.pickF; exact rfl; exact rfl; exact rfl; exact rfl)
      | (apply EvO.skip; exact rfl; exact rfl; exact rfl)
      | (apply EvO.loadI; exact rfl; exact rfl; omega; omega; kernel_rfl; exact rfl; exact rfl)
      | (apply EvO.loadOwn; exact rfl; exact rfl; exact rfl; exact rfl; exact rfl; kernel_rfl; exact rfl; exact rfl)
      | (apply EvO.loadBoxAgg; exact rfl; exact rfl; exact rfl; kernel_rfl; exact rfl; exact rfl; exact rfl)
      | (apply EvO.loadBox; exact rfl; exact rfl; exact rfl; exact rfl; kernel_rfl; exact rfl; exact rfl)
      | (apply EvO.loadRo; exact rfl; exact rfl; kernel_rfl; exact rfl; exact rfl)
      | (apply EvO.boxAgg; exact rfl; kernel_rfl; exact rfl; exact rfl; exact rfl)
      | (apply EvO.call; exact (CallSpec.pF (s_TileKind _ _) h); exact rfl; exact rfl; exact rfl)
      | (apply EvO.call; exact (s_InPins _); exact rfl; exact rfl; exact rfl)
      | (apply Ev.condT; exact rfl)
      | (apply Ev.condF; exact rfl)
      | (apply Ev.cond; exact rfl; all_goals (intro hh; first | replace hh := of_decide_eq_true hh | replace hh := of_decide_eq_false hh | skip))
      | (apply EvO.gsplit; exact rfl; exact rfl; exact rfl; all_goals (intro hh; first | replace hh := of_decide_eq_true hh | replace hh := of_decide_eq_false hh | skip))
      | (apply EvO.move; exact rfl; exact rfl)
      | (apply EvO.assign; exact rfl; exact rfl)
      | refine Ev.ret ?_)
    all_goals first | (exfalso; omega) | rfl
theorem wl {k : Int} {d : Dev} (h : d.ok) (h2 : 0 ≤ k ∧ k ≤ d.T - 1) : 0 ≤ 1 + k.tmod 2 ∧ 1 + k.tmod 2 ≤ 6 := by
  have := tmod2 h2.1
  omega
theorem Dev.dirBd {dir : Int} {d : Dev} (h : d.ok) (h2 : 0 ≤ dir ∧ dir ≤ 3) : 0 ≤ dir * d.T ∧ dir * d.T ≤ 12 := by
  have hb := h.b
  refine ⟨Int.mul_nonneg h2.1 (by omega), ?_⟩
  have h3 : dir * d.T ≤ 3 * d.T := Int.mul_le_mul_of_nonneg_right h2.2 (by omega)
  omega
set_option maxRecDepth 20000 in
set_option maxHeartbeats 1000000 in
theorem i_WireNode (d : Dev) (t dir k : Int) : CallSpec Try.prog 19 [.agg (encDev d), .one (.int t), .one (.int dir), .one (.int k)] (.t (.int (d.wireNode t dir k))) := by
  refine spec1 pm19 Try.func19 (by kernel_rfl) rfl Try.ntmps19 rfl Try.results19 rfl ?_
  intro B0 w0 S0
  unfold Dev.wireNode
  by_cases h : d.tileOk t
  · have hb := h.1.b
    have hc := h.b
    have hp := Dev.perBd h
    have hp2 : 7 ≤ d.per ∧ d.per ≤ 23 := by unfold Dev.per; omega
    by_cases hd : 0 ≤ dir ∧ dir ≤ 3
    · have hq := Dev.dirBd h.1 hd
      by_cases hk : 0 ≤ k ∧ k ≤ d.T - 1
      · by_cases hs : 0 ≤ d.step t dir (1 + k.tmod 2)
        · rw [if_pos ⟨h, hd, hk, hs⟩]
          repeat' (first
            | refine Ev.seq ?_
            | refine Ev.region ?_
            | (apply Ev.draws; exact follows; kernel_rfl)
            | refine Ev.skip ?_
            | refine EvO.nil ?_
            | (apply EvO.moveT; exact rfl; exact rfl; exact rfl)
            | (apply EvO.moveAl; exact rfl; exact rfl; exact rfl)
            | (apply EvO.moveAgg; exact rfl; exact rfl; exact rfl)
            | (apply EvO.assignOwn; exact rfl; exact rfl; exact rfl; exact rfl; exact rfl)
            | (apply EvO.assignT; exact rfl; exact rfl; exact rfl)
            | (apply EvO.assignAl; exact rfl; exact rfl; exact rfl)
            | (apply EvO.assignAgg; exact rfl; exact rfl; exact rfl)
            | (apply EvO.add; exact rfl; exact rfl; omega; exact rfl; exact rfl)
            | (apply EvO.sub; exact rfl; exact rfl; omega; exact rfl; exact rfl)
            | (apply EvO.mul; exact rfl; exact rfl; (first | omega | (apply mul_bd <;> omega)); exact rfl; exact rfl)
            | (apply EvO.lss; exact rfl; exact rfl; exact rfl; exact rfl)
            | (apply EvO.notP; exact rfl; exact rfl; exact rfl)
            | (apply EvO.not; exact rfl; exact rfl; exact rfl)
            | (apply EvO.pickT; exact rfl; exact rfl; exact rfl; exact rfl)
            | (apply EvO.pickF; exact rfl; exact rfl; exact rfl; exact rfl)
            | (apply EvO.skip; exact rfl; exact rfl; exact rfl)
            | (apply EvO.loadI; exact rfl; exact rfl; omega; omega; kernel_rfl; exact rfl; exact rfl)
            | (apply EvO.loadOwn; exact rfl; exact rfl; exact rfl; exact rfl; exact rfl; kernel_rfl; exact rfl; exact rfl)
            | (apply EvO.loadBoxAgg; exact rfl; exact rfl; exact rfl; kernel_rfl; exact rfl; exact rfl; exact rfl)
            | (apply EvO.loadBox; exact rfl; exact rfl; exact rfl; exact rfl; kernel_rfl; exact rfl; exact rfl)
            | (apply EvO.loadRo; exact rfl; exact rfl; kernel_rfl; exact rfl; exact rfl)
            | (apply EvO.fldBox; exact rfl; exact rfl; ((with_reducible first | exact fl_28_2)); exact rfl; exact rfl; exact rfl)
            | (apply EvO.fldAddr; exact rfl; ((with_reducible first | exact fl_28_2)); exact rfl; exact rfl)
            | (apply EvO.fldRo; exact rfl; ((with_reducible first | exact fl_28_2)); exact rfl; exact rfl)
            | (apply EvO.boxAgg; exact rfl; kernel_rfl; exact rfl; exact rfl; exact rfl)
            | (apply EvO.call; exact (CallSpec.bT (i_tileOk _ _) h); exact rfl; exact rfl; exact rfl)
            | (apply EvO.call; exact (CallSpec.bT (i_inRange _ _ _) hd); exact rfl; exact rfl; exact rfl)
            | (apply EvO.call; exact (CallSpec.bT (i_inRange _ _ _) hk); exact rfl; exact rfl; exact rfl)
            | (apply EvO.call; exact (i_wireLength _ hk.1); exact rfl; exact rfl; exact rfl)
            | (apply EvO.call; exact (i_tileStep _ _ _ _ h hd (wl h.1 hk)); exact rfl; exact rfl; exact rfl)
            | (apply EvO.call; exact (i_perTile _ h.1); exact rfl; exact rfl; exact rfl)
            | (apply Ev.condT; exact rfl)
            | (apply Ev.condF; exact rfl)
            | (apply Ev.cond; exact rfl; all_goals (intro hh; first | replace hh := of_decide_eq_true hh | replace hh := of_decide_eq_false hh | skip))
            | (apply EvO.gsplit; exact rfl; exact rfl; exact rfl; all_goals (intro hh; first | replace hh := of_decide_eq_true hh | replace hh := of_decide_eq_false hh | skip))
            | (apply EvO.move; exact rfl; exact rfl)
            | (apply EvO.assign; exact rfl; exact rfl)
            | refine Ev.ret ?_)
          all_goals first | (exfalso; omega) | rfl
        · rw [if_neg (fun e => hs e.2.2.2)]
          repeat' (first
            | refine Ev.seq ?_
            | refine Ev.region ?_
            | (apply Ev.draws; exact follows; kernel_rfl)
            | refine Ev.skip ?_
            | refine EvO.nil ?_
            | (apply EvO.moveT; exact rfl; exact rfl; exact rfl)
            | (apply EvO.moveAl; exact rfl; exact rfl; exact rfl)
            | (apply EvO.moveAgg; exact rfl; exact rfl; exact rfl)
            | (apply EvO.assignOwn; exact rfl; exact rfl; exact rfl; exact rfl; exact rfl)
            | (apply EvO.assignT; exact rfl; exact rfl; exact rfl)
            | (apply EvO.assignAl; exact rfl; exact rfl; exact rfl)
            | (apply EvO.assignAgg; exact rfl; exact rfl; exact rfl)
            | (apply EvO.add; exact rfl; exact rfl; omega; exact rfl; exact rfl)
            | (apply EvO.sub; exact rfl; exact rfl; omega; exact rfl; exact rfl)
            | (apply EvO.mul; exact rfl; exact rfl; (first | omega | (apply mul_bd <;> omega)); exact rfl; exact rfl)
            | (apply EvO.lss; exact rfl; exact rfl; exact rfl; exact rfl)
            | (apply EvO.notP; exact rfl; exact rfl; exact rfl)
            | (apply EvO.not; exact rfl; exact rfl; exact rfl)
            | (apply EvO.pickT; exact rfl; exact rfl; exact rfl; exact rfl)
            | (apply EvO.pickF; exact rfl; exact rfl; exact rfl; exact rfl)
            | (apply EvO.skip; exact rfl; exact rfl; exact rfl)
            | (apply EvO.loadI; exact rfl; exact rfl; omega; omega; kernel_rfl; exact rfl; exact rfl)
            | (apply EvO.loadOwn; exact rfl; exact rfl; exact rfl; exact rfl; exact rfl; kernel_rfl; exact rfl; exact rfl)
            | (apply EvO.loadBoxAgg; exact rfl; exact rfl; exact rfl; kernel_rfl; exact rfl; exact rfl; exact rfl)
            | (apply EvO.loadBox; exact rfl; exact rfl; exact rfl; exact rfl; kernel_rfl; exact rfl; exact rfl)
            | (apply EvO.loadRo; exact rfl; exact rfl; kernel_rfl; exact rfl; exact rfl)
            | (apply EvO.fldBox; exact rfl; exact rfl; ((with_reducible first | exact fl_28_2)); exact rfl; exact rfl; exact rfl)
            | (apply EvO.fldAddr; exact rfl; ((with_reducible first | exact fl_28_2)); exact rfl; exact rfl)
            | (apply EvO.fldRo; exact rfl; ((with_reducible first | exact fl_28_2)); exact rfl; exact rfl)
            | (apply EvO.boxAgg; exact rfl; kernel_rfl; exact rfl; exact rfl; exact rfl)
            | (apply EvO.call; exact (CallSpec.bT (i_tileOk _ _) h); exact rfl; exact rfl; exact rfl)
            | (apply EvO.call; exact (CallSpec.bT (i_inRange _ _ _) hd); exact rfl; exact rfl; exact rfl)
            | (apply EvO.call; exact (CallSpec.bT (i_inRange _ _ _) hk); exact rfl; exact rfl; exact rfl)
            | (apply EvO.call; exact (i_wireLength _ hk.1); exact rfl; exact rfl; exact rfl)
            | (apply EvO.call; exact (i_tileStep _ _ _ _ h hd (wl h.1 hk)); exact rfl; exact rfl; exact rfl)
            | (apply EvO.call; exact (i_perTile _ h.1); exact rfl; exact rfl; exact rfl)
            | (apply Ev.condT; exact rfl)
            | (apply Ev.condF; exact rfl)
            | (apply Ev.cond; exact rfl; all_goals (intro hh; first | replace hh := of_decide_eq_true hh | replace hh := of_decide_eq_false hh | skip))
            | (apply EvO.gsplit; exact rfl; exact rfl; exact rfl; all_goals (intro hh; first | replace hh := of_decide_eq_true hh | replace hh := of_decide_eq_false hh | skip))
            | (apply EvO.move; exact rfl; exact rfl)
            | (apply EvO.assign; exact rfl; exact rfl)
            | refine Ev.ret ?_)
          all_goals first | (exfalso; omega) | rfl
      · rw [if_neg (fun e => hk e.2.2.1)]
        repeat' (first
          | refine Ev.seq ?_
          | refine Ev.region ?_
          | (apply Ev.draws; exact follows; kernel_rfl)
          | refine Ev.skip ?_
          | refine EvO.nil ?_
          | (apply EvO.moveT; exact rfl; exact rfl; exact rfl)
          | (apply EvO.moveAl; exact rfl; exact rfl; exact rfl)
          | (apply EvO.moveAgg; exact rfl; exact rfl; exact rfl)
          | (apply EvO.assignOwn; exact rfl; exact rfl; exact rfl; exact rfl; exact rfl)
          | (apply EvO.assignT; exact rfl; exact rfl; exact rfl)
          | (apply EvO.assignAl; exact rfl; exact rfl; exact rfl)
          | (apply EvO.assignAgg; exact rfl; exact rfl; exact rfl)
          | (apply EvO.add; exact rfl; exact rfl; omega; exact rfl; exact rfl)
          | (apply EvO.sub; exact rfl; exact rfl; omega; exact rfl; exact rfl)
          | (apply EvO.mul; exact rfl; exact rfl; (first | omega | (apply mul_bd <;> omega)); exact rfl; exact rfl)
          | (apply EvO.lss; exact rfl; exact rfl; exact rfl; exact rfl)
          | (apply EvO.notP; exact rfl; exact rfl; exact rfl)
          | (apply EvO.not; exact rfl; exact rfl; exact rfl)
          | (apply EvO.pickT; exact rfl; exact rfl; exact rfl; exact rfl)
          | (apply EvO.pickF; exact rfl; exact rfl; exact rfl; exact rfl)
          | (apply EvO.skip; exact rfl; exact rfl; exact rfl)
          | (apply EvO.loadI; exact rfl; exact rfl; omega; omega; kernel_rfl; exact rfl; exact rfl)
          | (apply EvO.loadOwn; exact rfl; exact rfl; exact rfl; exact rfl; exact rfl; kernel_rfl; exact rfl; exact rfl)
          | (apply EvO.loadBoxAgg; exact rfl; exact rfl; exact rfl; kernel_rfl; exact rfl; exact rfl; exact rfl)
          | (apply EvO.loadBox; exact rfl; exact rfl; exact rfl; exact rfl; kernel_rfl; exact rfl; exact rfl)
          | (apply EvO.loadRo; exact rfl; exact rfl; kernel_rfl; exact rfl; exact rfl)
          | (apply EvO.fldBox; exact rfl; exact rfl; ((with_reducible first | exact fl_28_2)); exact rfl; exact rfl; exact rfl)
          | (apply EvO.fldAddr; exact rfl; ((with_reducible first | exact fl_28_2)); exact rfl; exact rfl)
          | (apply EvO.fldRo; exact rfl; ((with_reducible first | exact fl_28_2)); exact rfl; exact rfl)
          | (apply EvO.boxAgg; exact rfl; kernel_rfl; exact rfl; exact rfl; exact rfl)
          | (apply EvO.call; exact (CallSpec.bT (i_tileOk _ _) h); exact rfl; exact rfl; exact rfl)
          | (apply EvO.call; exact (CallSpec.bT (i_inRange _ _ _) hd); exact rfl; exact rfl; exact rfl)
          | (apply EvO.call; exact (CallSpec.bF (i_inRange _ _ _) hk); exact rfl; exact rfl; exact rfl)
          | (apply Ev.condT; exact rfl)
          | (apply Ev.condF; exact rfl)
          | (apply Ev.cond; exact rfl; all_goals (intro hh; first | replace hh := of_decide_eq_true hh | replace hh := of_decide_eq_false hh | skip))
          | (apply EvO.gsplit; exact rfl; exact rfl; exact rfl; all_goals (intro hh; first | replace hh := of_decide_eq_true hh | replace hh := of_decide_eq_false hh | skip))
          | (apply EvO.move; exact rfl; exact rfl)
          | (apply EvO.assign; exact rfl; exact rfl)
          | refine Ev.ret ?_)
        all_goals rfl
    · rw [if_neg (fun e => hd e.2.1)]
      repeat' (first
        | refine Ev.seq ?_
        | refine Ev.region ?_
        | (apply Ev.draws; exact follows; kernel_rfl)
        | refine Ev.skip ?_
        | refine EvO.nil ?_
        | (apply EvO.moveT; exact rfl; exact rfl; exact rfl)
        | (apply EvO.moveAl; exact rfl; exact rfl; exact rfl)
        | (apply EvO.moveAgg; exact rfl; exact rfl; exact rfl)
        | (apply EvO.assignOwn; exact rfl; exact rfl; exact rfl; exact rfl; exact rfl)
        | (apply EvO.assignT; exact rfl; exact rfl; exact rfl)
        | (apply EvO.assignAl; exact rfl; exact rfl; exact rfl)
        | (apply EvO.assignAgg; exact rfl; exact rfl; exact rfl)
        | (apply EvO.add; exact rfl; exact rfl; omega; exact rfl; exact rfl)
        | (apply EvO.sub; exact rfl; exact rfl; omega; exact rfl; exact rfl)
        | (apply EvO.mul; exact rfl; exact rfl; (first | omega | (apply mul_bd <;> omega)); exact rfl; exact rfl)
        | (apply EvO.lss; exact rfl; exact rfl; exact rfl; exact rfl)
        | (apply EvO.notP; exact rfl; exact rfl; exact rfl)
        | (apply EvO.not; exact rfl; exact rfl; exact rfl)
        | (apply EvO.pickT; exact rfl; exact rfl; exact rfl; exact rfl)
        | (apply EvO.pickF; exact rfl; exact rfl; exact rfl; exact rfl)
        | (apply EvO.skip; exact rfl; exact rfl; exact rfl)
        | (apply EvO.loadI; exact rfl; exact rfl; omega; omega; kernel_rfl; exact rfl; exact rfl)
        | (apply EvO.loadOwn; exact rfl; exact rfl; exact rfl; exact rfl; exact rfl; kernel_rfl; exact rfl; exact rfl)
        | (apply EvO.loadBoxAgg; exact rfl; exact rfl; exact rfl; kernel_rfl; exact rfl; exact rfl; exact rfl)
        | (apply EvO.loadBox; exact rfl; exact rfl; exact rfl; exact rfl; kernel_rfl; exact rfl; exact rfl)
        | (apply EvO.loadRo; exact rfl; exact rfl; kernel_rfl; exact rfl; exact rfl)
        | (apply EvO.fldBox; exact rfl; exact rfl; ((with_reducible first | exact fl_28_2)); exact rfl; exact rfl; exact rfl)
        | (apply EvO.fldAddr; exact rfl; ((with_reducible first | exact fl_28_2)); exact rfl; exact rfl)
        | (apply EvO.fldRo; exact rfl; ((with_reducible first | exact fl_28_2)); exact rfl; exact rfl)
        | (apply EvO.boxAgg; exact rfl; kernel_rfl; exact rfl; exact rfl; exact rfl)
        | (apply EvO.call; exact (CallSpec.bT (i_tileOk _ _) h); exact rfl; exact rfl; exact rfl)
        | (apply EvO.call; exact (CallSpec.bF (i_inRange _ _ _) hd); exact rfl; exact rfl; exact rfl)
        | (apply Ev.condT; exact rfl)
        | (apply Ev.condF; exact rfl)
        | (apply Ev.cond; exact rfl; all_goals (intro hh; first | replace hh := of_decide_eq_true hh | replace hh := of_decide_eq_false hh | skip))
        | (apply EvO.gsplit; exact rfl; exact rfl; exact rfl; all_goals (intro hh; first | replace hh := of_decide_eq_true hh | replace hh := of_decide_eq_false hh | skip))
        | (apply EvO.move; exact rfl; exact rfl)
        | (apply EvO.assign; exact rfl; exact rfl)
        | refine Ev.ret ?_)
      all_goals rfl
  · rw [if_neg (fun e => h e.1)]
    repeat' (first
      | refine Ev.seq ?_
      | refine Ev.region ?_
      | (apply Ev.draws; exact follows; kernel_rfl)
      | refine Ev.skip ?_
      | refine EvO.nil ?_
      | (apply EvO.moveT; exact rfl; exact rfl; exact rfl)
      | (apply EvO.moveAl; exact rfl; exact rfl; exact rfl)
      | (apply EvO.moveAgg; exact rfl; exact rfl; exact rfl)
      | (apply EvO.assignOwn; exact rfl; exact rfl; exact rfl; exact rfl; exact rfl)
      | (apply EvO.assignT; exact rfl; exact rfl; exact rfl)
      | (apply EvO.assignAl; exact rfl; exact rfl; exact rfl)
      | (apply EvO.assignAgg; exact rfl; exact rfl; exact rfl)
      | (apply EvO.add; exact rfl; exact rfl; omega; exact rfl; exact rfl)
      | (apply EvO.sub; exact rfl; exact rfl; omega; exact rfl; exact rfl)
      | (apply EvO.mul; exact rfl; exact rfl; (first | omega | (apply mul_bd <;> omega)); exact rfl; exact rfl)
      | (apply EvO.lss; exact rfl; exact rfl; exact rfl; exact rfl)
      | (apply EvO.notP; exact rfl; exact rfl; exact rfl)
      | (apply EvO.not; exact rfl; exact rfl; exact rfl)
      | (apply EvO.pickT; exact rfl; exact rfl; exact rfl; exact rfl)
      | (apply EvO.pickF; exact rfl; exact rfl; exact rfl; exact rfl)
      | (apply EvO.skip; exact rfl; exact rfl; exact rfl)
      | (apply EvO.loadI; exact rfl; exact rfl; omega; omega; kernel_rfl; exact rfl; exact rfl)
      | (apply EvO.loadOwn; exact rfl; exact rfl; exact rfl; exact rfl; exact rfl; kernel_rfl; exact rfl; exact rfl)
      | (apply EvO.loadBoxAgg; exact rfl; exact rfl; exact rfl; kernel_rfl; exact rfl; exact rfl; exact rfl)
      | (apply EvO.loadBox; exact rfl; exact rfl; exact rfl; exact rfl; kernel_rfl; exact rfl; exact rfl)
      | (apply EvO.loadRo; exact rfl; exact rfl; kernel_rfl; exact rfl; exact rfl)
      | (apply EvO.fldBox; exact rfl; exact rfl; ((with_reducible first | exact fl_28_2)); exact rfl; exact rfl; exact rfl)
      | (apply EvO.fldAddr; exact rfl; ((with_reducible first | exact fl_28_2)); exact rfl; exact rfl)
      | (apply EvO.fldRo; exact rfl; ((with_reducible first | exact fl_28_2)); exact rfl; exact rfl)
      | (apply EvO.boxAgg; exact rfl; kernel_rfl; exact rfl; exact rfl; exact rfl)
      | (apply EvO.call; exact (CallSpec.bF (i_tileOk _ _) h); exact rfl; exact rfl; exact rfl)
      | (apply Ev.condT; exact rfl)
      | (apply Ev.condF; exact rfl)
      | (apply Ev.cond; exact rfl; all_goals (intro hh; first | replace hh := of_decide_eq_true hh | replace hh := of_decide_eq_false hh | skip))
      | (apply EvO.gsplit; exact rfl; exact rfl; exact rfl; all_goals (intro hh; first | replace hh := of_decide_eq_true hh | replace hh := of_decide_eq_false hh | skip))
      | (apply EvO.move; exact rfl; exact rfl)
      | (apply EvO.assign; exact rfl; exact rfl)
      | refine Ev.ret ?_)
    all_goals rfl
set_option maxRecDepth 20000 in
set_option maxHeartbeats 1000000 in
theorem s_WireNode (d : Dev) (t dir k : Int) : CallSpec Try.prog 18 [.agg (encDev d), .one (.int t), .one (.int dir), .one (.int k)] (.t (.int (d.wireNode t dir k))) := by
  refine spec1 pm18 Try.func18 (by kernel_rfl) rfl Try.ntmps18 rfl Try.results18 rfl ?_
  intro B0 w0 S0
  unfold Dev.wireNode
  by_cases h : d.tileOk t
  · have hb := h.1.b
    have hc := h.b
    have hkd := d.kindBd t
    have hp := Dev.perBd h
    have hp2 : 7 ≤ d.per ∧ d.per ≤ 23 := by unfold Dev.per; omega
    by_cases hk : 0 ≤ k ∧ k ≤ d.T - 1
    · have hw := wl h.1 hk
      by_cases hd : 0 ≤ dir ∧ dir ≤ 3
      · have hq := Dev.dirBd h.1 hd
        have ht : d.tileOk t ∧ (0 ≤ dir ∧ dir ≤ 3) ∧ (0 ≤ 1 + k.tmod 2 ∧ 1 + k.tmod 2 ≤ 6) := ⟨h, hd, hw⟩
        by_cases hs : 0 ≤ d.step t dir (1 + k.tmod 2)
        · rw [if_pos ⟨h, hd, hk, hs⟩]
          repeat' (first
            | refine Ev.seq ?_
            | refine Ev.region ?_
            | (apply Ev.draws; exact follows; kernel_rfl)
            | refine Ev.skip ?_
            | refine EvO.nil ?_
            | (apply EvO.moveT; exact rfl; exact rfl; exact rfl)
            | (apply EvO.moveAl; exact rfl; exact rfl; exact rfl)
            | (apply EvO.moveAgg; exact rfl; exact rfl; exact rfl)
            | (apply EvO.assignOwn; exact rfl; exact rfl; exact rfl; exact rfl; exact rfl)
            | (apply EvO.assignT; exact rfl; exact rfl; exact rfl)
            | (apply EvO.assignAl; exact rfl; exact rfl; exact rfl)
            | (apply EvO.assignAgg; exact rfl; exact rfl; exact rfl)
            | (apply EvO.add; exact rfl; exact rfl; omega; exact rfl; exact rfl)
            | (apply EvO.mul; exact rfl; exact rfl; (first | omega | (apply mul_bd <;> omega)); exact rfl; exact rfl)
            | (apply EvO.rem; exact rfl; exact rfl; omega; exact rfl; exact rfl)
            | (apply EvO.lss; exact rfl; exact rfl; exact rfl; exact rfl)
            | (apply EvO.geq; exact rfl; exact rfl; exact rfl; exact rfl)
            | (apply EvO.pickT; exact rfl; exact rfl; exact rfl; exact rfl)
            | (apply EvO.pickF; exact rfl; exact rfl; exact rfl; exact rfl)
            | (apply EvO.skip; exact rfl; exact rfl; exact rfl)
            | (apply EvO.loadI; exact rfl; exact rfl; omega; omega; kernel_rfl; exact rfl; exact rfl)
            | (apply EvO.loadOwn; exact rfl; exact rfl; exact rfl; exact rfl; exact rfl; kernel_rfl; exact rfl; exact rfl)
            | (apply EvO.loadBoxAgg; exact rfl; exact rfl; exact rfl; kernel_rfl; exact rfl; exact rfl; exact rfl)
            | (apply EvO.loadBox; exact rfl; exact rfl; exact rfl; exact rfl; kernel_rfl; exact rfl; exact rfl)
            | (apply EvO.loadRo; exact rfl; exact rfl; kernel_rfl; exact rfl; exact rfl)
            | (apply EvO.fldBox; exact rfl; exact rfl; ((with_reducible first | exact fl_28_2)); exact rfl; exact rfl; exact rfl)
            | (apply EvO.fldAddr; exact rfl; ((with_reducible first | exact fl_28_2)); exact rfl; exact rfl)
            | (apply EvO.fldRo; exact rfl; ((with_reducible first | exact fl_28_2)); exact rfl; exact rfl)
            | (apply EvO.boxAgg; exact rfl; kernel_rfl; exact rfl; exact rfl; exact rfl)
            | (apply EvO.call; exact (CallSpec.pT (s_TileKind _ _) h); exact rfl; exact rfl; exact rfl)
            | (apply EvO.call; exact (CallSpec.pT (s_TileStep _ _ _ _) ht); exact rfl; exact rfl; exact rfl)
            | (apply EvO.call; exact (s_l27Per _ h.1); exact rfl; exact rfl; exact rfl)
            | (apply Ev.condT; exact rfl)
            | (apply Ev.condF; exact rfl)
            | (apply Ev.cond; exact rfl; all_goals (intro hh; first | replace hh := of_decide_eq_true hh | replace hh := of_decide_eq_false hh | skip))
            | (apply EvO.gsplit; exact rfl; exact rfl; exact rfl; all_goals (intro hh; first | replace hh := of_decide_eq_true hh | replace hh := of_decide_eq_false hh | skip))
            | (apply EvO.move; exact rfl; exact rfl)
            | (apply EvO.assign; exact rfl; exact rfl)
            | refine Ev.ret ?_)
          all_goals first | (exfalso; omega) | rfl
        · rw [if_neg (fun e => hs e.2.2.2)]
          repeat' (first
            | refine Ev.seq ?_
            | refine Ev.region ?_
            | (apply Ev.draws; exact follows; kernel_rfl)
            | refine Ev.skip ?_
            | refine EvO.nil ?_
            | (apply EvO.moveT; exact rfl; exact rfl; exact rfl)
            | (apply EvO.moveAl; exact rfl; exact rfl; exact rfl)
            | (apply EvO.moveAgg; exact rfl; exact rfl; exact rfl)
            | (apply EvO.assignOwn; exact rfl; exact rfl; exact rfl; exact rfl; exact rfl)
            | (apply EvO.assignT; exact rfl; exact rfl; exact rfl)
            | (apply EvO.assignAl; exact rfl; exact rfl; exact rfl)
            | (apply EvO.assignAgg; exact rfl; exact rfl; exact rfl)
            | (apply EvO.add; exact rfl; exact rfl; omega; exact rfl; exact rfl)
            | (apply EvO.mul; exact rfl; exact rfl; (first | omega | (apply mul_bd <;> omega)); exact rfl; exact rfl)
            | (apply EvO.rem; exact rfl; exact rfl; omega; exact rfl; exact rfl)
            | (apply EvO.lss; exact rfl; exact rfl; exact rfl; exact rfl)
            | (apply EvO.geq; exact rfl; exact rfl; exact rfl; exact rfl)
            | (apply EvO.pickT; exact rfl; exact rfl; exact rfl; exact rfl)
            | (apply EvO.pickF; exact rfl; exact rfl; exact rfl; exact rfl)
            | (apply EvO.skip; exact rfl; exact rfl; exact rfl)
            | (apply EvO.loadI; exact rfl; exact rfl; omega; omega; kernel_rfl; exact rfl; exact rfl)
            | (apply EvO.loadOwn; exact rfl; exact rfl; exact rfl; exact rfl; exact rfl; kernel_rfl; exact rfl; exact rfl)
            | (apply EvO.loadBoxAgg; exact rfl; exact rfl; exact rfl; kernel_rfl; exact rfl; exact rfl; exact rfl)
            | (apply EvO.loadBox; exact rfl; exact rfl; exact rfl; exact rfl; kernel_rfl; exact rfl; exact rfl)
            | (apply EvO.loadRo; exact rfl; exact rfl; kernel_rfl; exact rfl; exact rfl)
            | (apply EvO.fldBox; exact rfl; exact rfl; ((with_reducible first | exact fl_28_2)); exact rfl; exact rfl; exact rfl)
            | (apply EvO.fldAddr; exact rfl; ((with_reducible first | exact fl_28_2)); exact rfl; exact rfl)
            | (apply EvO.fldRo; exact rfl; ((with_reducible first | exact fl_28_2)); exact rfl; exact rfl)
            | (apply EvO.boxAgg; exact rfl; kernel_rfl; exact rfl; exact rfl; exact rfl)
            | (apply EvO.call; exact (CallSpec.pT (s_TileKind _ _) h); exact rfl; exact rfl; exact rfl)
            | (apply EvO.call; exact (CallSpec.pT (s_TileStep _ _ _ _) ht); exact rfl; exact rfl; exact rfl)
            | (apply EvO.call; exact (s_l27Per _ h.1); exact rfl; exact rfl; exact rfl)
            | (apply Ev.condT; exact rfl)
            | (apply Ev.condF; exact rfl)
            | (apply Ev.cond; exact rfl; all_goals (intro hh; first | replace hh := of_decide_eq_true hh | replace hh := of_decide_eq_false hh | skip))
            | (apply EvO.gsplit; exact rfl; exact rfl; exact rfl; all_goals (intro hh; first | replace hh := of_decide_eq_true hh | replace hh := of_decide_eq_false hh | skip))
            | (apply EvO.move; exact rfl; exact rfl)
            | (apply EvO.assign; exact rfl; exact rfl)
            | refine Ev.ret ?_)
          all_goals first | (exfalso; omega) | rfl
      · rw [if_neg (fun e => hd e.2.1)]
        have ht : ¬ (d.tileOk t ∧ (0 ≤ dir ∧ dir ≤ 3) ∧ (0 ≤ 1 + k.tmod 2 ∧ 1 + k.tmod 2 ≤ 6)) := fun e => hd e.2.1
        repeat' (first
          | refine Ev.seq ?_
          | refine Ev.region ?_
          | (apply Ev.draws; exact follows; kernel_rfl)
          | refine Ev.skip ?_
          | refine EvO.nil ?_
          | (apply EvO.moveT; exact rfl; exact rfl; exact rfl)
          | (apply EvO.moveAl; exact rfl; exact rfl; exact rfl)
          | (apply EvO.moveAgg; exact rfl; exact rfl; exact rfl)
          | (apply EvO.assignOwn; exact rfl; exact rfl; exact rfl; exact rfl; exact rfl)
          | (apply EvO.assignT; exact rfl; exact rfl; exact rfl)
          | (apply EvO.assignAl; exact rfl; exact rfl; exact rfl)
          | (apply EvO.assignAgg; exact rfl; exact rfl; exact rfl)
          | (apply EvO.add; exact rfl; exact rfl; omega; exact rfl; exact rfl)
          | (apply EvO.mul; exact rfl; exact rfl; (first | omega | (apply mul_bd <;> omega)); exact rfl; exact rfl)
          | (apply EvO.rem; exact rfl; exact rfl; omega; exact rfl; exact rfl)
          | (apply EvO.lss; exact rfl; exact rfl; exact rfl; exact rfl)
          | (apply EvO.geq; exact rfl; exact rfl; exact rfl; exact rfl)
          | (apply EvO.pickT; exact rfl; exact rfl; exact rfl; exact rfl)
          | (apply EvO.pickF; exact rfl; exact rfl; exact rfl; exact rfl)
          | (apply EvO.skip; exact rfl; exact rfl; exact rfl)
          | (apply EvO.loadI; exact rfl; exact rfl; omega; omega; kernel_rfl; exact rfl; exact rfl)
          | (apply EvO.loadOwn; exact rfl; exact rfl; exact rfl; exact rfl; exact rfl; kernel_rfl; exact rfl; exact rfl)
          | (apply EvO.loadBoxAgg; exact rfl; exact rfl; exact rfl; kernel_rfl; exact rfl; exact rfl; exact rfl)
          | (apply EvO.loadBox; exact rfl; exact rfl; exact rfl; exact rfl; kernel_rfl; exact rfl; exact rfl)
          | (apply EvO.loadRo; exact rfl; exact rfl; kernel_rfl; exact rfl; exact rfl)
          | (apply EvO.fldBox; exact rfl; exact rfl; ((with_reducible first | exact fl_28_2)); exact rfl; exact rfl; exact rfl)
          | (apply EvO.fldAddr; exact rfl; ((with_reducible first | exact fl_28_2)); exact rfl; exact rfl)
          | (apply EvO.fldRo; exact rfl; ((with_reducible first | exact fl_28_2)); exact rfl; exact rfl)
          | (apply EvO.boxAgg; exact rfl; kernel_rfl; exact rfl; exact rfl; exact rfl)
          | (apply EvO.call; exact (CallSpec.pT (s_TileKind _ _) h); exact rfl; exact rfl; exact rfl)
          | (apply EvO.call; exact (CallSpec.pF (s_TileStep _ _ _ _) ht); exact rfl; exact rfl; exact rfl)
          | (apply Ev.condT; exact rfl)
          | (apply Ev.condF; exact rfl)
          | (apply Ev.cond; exact rfl; all_goals (intro hh; first | replace hh := of_decide_eq_true hh | replace hh := of_decide_eq_false hh | skip))
          | (apply EvO.gsplit; exact rfl; exact rfl; exact rfl; all_goals (intro hh; first | replace hh := of_decide_eq_true hh | replace hh := of_decide_eq_false hh | skip))
          | (apply EvO.move; exact rfl; exact rfl)
          | (apply EvO.assign; exact rfl; exact rfl)
          | refine Ev.ret ?_)
        all_goals first | (exfalso; omega) | rfl
    · rw [if_neg (fun e => hk e.2.2.1)]
      repeat' (first
        | refine Ev.seq ?_
        | refine Ev.region ?_
        | (apply Ev.draws; exact follows; kernel_rfl)
        | refine Ev.skip ?_
        | refine EvO.nil ?_
        | (apply EvO.moveT; exact rfl; exact rfl; exact rfl)
        | (apply EvO.moveAl; exact rfl; exact rfl; exact rfl)
        | (apply EvO.moveAgg; exact rfl; exact rfl; exact rfl)
        | (apply EvO.assignOwn; exact rfl; exact rfl; exact rfl; exact rfl; exact rfl)
        | (apply EvO.assignT; exact rfl; exact rfl; exact rfl)
        | (apply EvO.assignAl; exact rfl; exact rfl; exact rfl)
        | (apply EvO.assignAgg; exact rfl; exact rfl; exact rfl)
        | (apply EvO.add; exact rfl; exact rfl; omega; exact rfl; exact rfl)
        | (apply EvO.mul; exact rfl; exact rfl; (first | omega | (apply mul_bd <;> omega)); exact rfl; exact rfl)
        | (apply EvO.rem; exact rfl; exact rfl; omega; exact rfl; exact rfl)
        | (apply EvO.lss; exact rfl; exact rfl; exact rfl; exact rfl)
        | (apply EvO.geq; exact rfl; exact rfl; exact rfl; exact rfl)
        | (apply EvO.pickT; exact rfl; exact rfl; exact rfl; exact rfl)
        | (apply EvO.pickF; exact rfl; exact rfl; exact rfl; exact rfl)
        | (apply EvO.skip; exact rfl; exact rfl; exact rfl)
        | (apply EvO.loadI; exact rfl; exact rfl; omega; omega; kernel_rfl; exact rfl; exact rfl)
        | (apply EvO.loadOwn; exact rfl; exact rfl; exact rfl; exact rfl; exact rfl; kernel_rfl; exact rfl; exact rfl)
        | (apply EvO.loadBoxAgg; exact rfl; exact rfl; exact rfl; kernel_rfl; exact rfl; exact rfl; exact rfl)
        | (apply EvO.loadBox; exact rfl; exact rfl; exact rfl; exact rfl; kernel_rfl; exact rfl; exact rfl)
        | (apply EvO.loadRo; exact rfl; exact rfl; kernel_rfl; exact rfl; exact rfl)
        | (apply EvO.fldBox; exact rfl; exact rfl; ((with_reducible first | exact fl_28_2)); exact rfl; exact rfl; exact rfl)
        | (apply EvO.fldAddr; exact rfl; ((with_reducible first | exact fl_28_2)); exact rfl; exact rfl)
        | (apply EvO.fldRo; exact rfl; ((with_reducible first | exact fl_28_2)); exact rfl; exact rfl)
        | (apply EvO.boxAgg; exact rfl; kernel_rfl; exact rfl; exact rfl; exact rfl)
        | (apply EvO.call; exact (CallSpec.pT (s_TileKind _ _) h); exact rfl; exact rfl; exact rfl)
        | (apply EvO.call; exact (s_TileStep _ _ _ _); exact rfl; exact rfl; exact rfl)
        | (apply Ev.condT; exact rfl)
        | (apply Ev.condF; exact rfl)
        | (apply Ev.cond; exact rfl; all_goals (intro hh; first | replace hh := of_decide_eq_true hh | replace hh := of_decide_eq_false hh | skip))
        | (apply EvO.gsplit; exact rfl; exact rfl; exact rfl; all_goals (intro hh; first | replace hh := of_decide_eq_true hh | replace hh := of_decide_eq_false hh | skip))
        | (apply EvO.move; exact rfl; exact rfl)
        | (apply EvO.assign; exact rfl; exact rfl)
        | refine Ev.ret ?_)
      all_goals first | (exfalso; omega) | rfl
  · rw [if_neg (fun e => h e.1)]
    repeat' (first
      | refine Ev.seq ?_
      | refine Ev.region ?_
      | (apply Ev.draws; exact follows; kernel_rfl)
      | refine Ev.skip ?_
      | refine EvO.nil ?_
      | (apply EvO.moveT; exact rfl; exact rfl; exact rfl)
      | (apply EvO.moveAl; exact rfl; exact rfl; exact rfl)
      | (apply EvO.moveAgg; exact rfl; exact rfl; exact rfl)
      | (apply EvO.assignOwn; exact rfl; exact rfl; exact rfl; exact rfl; exact rfl)
      | (apply EvO.assignT; exact rfl; exact rfl; exact rfl)
      | (apply EvO.assignAl; exact rfl; exact rfl; exact rfl)
      | (apply EvO.assignAgg; exact rfl; exact rfl; exact rfl)
      | (apply EvO.add; exact rfl; exact rfl; omega; exact rfl; exact rfl)
      | (apply EvO.mul; exact rfl; exact rfl; (first | omega | (apply mul_bd <;> omega)); exact rfl; exact rfl)
      | (apply EvO.rem; exact rfl; exact rfl; omega; exact rfl; exact rfl)
      | (apply EvO.lss; exact rfl; exact rfl; exact rfl; exact rfl)
      | (apply EvO.geq; exact rfl; exact rfl; exact rfl; exact rfl)
      | (apply EvO.pickT; exact rfl; exact rfl; exact rfl; exact rfl)
      | (apply EvO.pickF; exact rfl; exact rfl; exact rfl; exact rfl)
      | (apply EvO.skip; exact rfl; exact rfl; exact rfl)
      | (apply EvO.loadI; exact rfl; exact rfl; omega; omega; kernel_rfl; exact rfl; exact rfl)
      | (apply EvO.loadOwn; exact rfl; exact rfl; exact rfl; exact rfl; exact rfl; kernel_rfl; exact rfl; exact rfl)
      | (apply EvO.loadBoxAgg; exact rfl; exact rfl; exact rfl; kernel_rfl; exact rfl; exact rfl; exact rfl)
      | (apply EvO.loadBox; exact rfl; exact rfl; exact rfl; exact rfl; kernel_rfl; exact rfl; exact rfl)
      | (apply EvO.loadRo; exact rfl; exact rfl; kernel_rfl; exact rfl; exact rfl)
      | (apply EvO.fldBox; exact rfl; exact rfl; ((with_reducible first | exact fl_28_2)); exact rfl; exact rfl; exact rfl)
      | (apply EvO.fldAddr; exact rfl; ((with_reducible first | exact fl_28_2)); exact rfl; exact rfl)
      | (apply EvO.fldRo; exact rfl; ((with_reducible first | exact fl_28_2)); exact rfl; exact rfl)
      | (apply EvO.boxAgg; exact rfl; kernel_rfl; exact rfl; exact rfl; exact rfl)
      | (apply EvO.call; exact (CallSpec.pF (s_TileKind _ _) h); exact rfl; exact rfl; exact rfl)
      | (apply Ev.condT; exact rfl)
      | (apply Ev.condF; exact rfl)
      | (apply Ev.cond; exact rfl; all_goals (intro hh; first | replace hh := of_decide_eq_true hh | replace hh := of_decide_eq_false hh | skip))
      | (apply EvO.gsplit; exact rfl; exact rfl; exact rfl; all_goals (intro hh; first | replace hh := of_decide_eq_true hh | replace hh := of_decide_eq_false hh | skip))
      | (apply EvO.move; exact rfl; exact rfl)
      | (apply EvO.assign; exact rfl; exact rfl)
      | refine Ev.ret ?_)
    all_goals first | (exfalso; omega) | rfl
end Go.Proofs.Ytphdildkhaeimaa
