/-
  Own work. Separation: what is reached without a set of wires, plainly.
-/
import Derived.Test.YtjpkedhcbnklmaaDsd
namespace Go.Pf
open Go Go.Pu
set_option linter.unusedVariables false

theorem outPin_node {d : Dev} {t k : Int} (h : 0 ≤ outPinP d t k) : DOk d ∧ outPinP d t k < nodesN d ∧ nPin d (outPinP d t k) < 7 := by
  unfold outPinP at h
  split at h
  rotate_left
  · omega
  rename_i q
  have ho := outP_le (tk d t)
  obtain ⟨hd, t0, t1, _, q0, q1⟩ := tk_in (d := d) (t := t) (ho.2.2 (by omega))
  have hp := per_le hd
  have hm := mul_le36 hd.1 hd.2.1
  have h4 : (t + 1) * per d ≤ d.1 * d.2.1 * per d := Int.mul_le_mul_of_nonneg_right (by omega) (by omega)
  rw [Int.add_mul, Int.one_mul] at h4
  have e : outPinP d t k = t * per d + (5 + k) := by unfold outPinP; rw [if_pos q]; omega
  refine ⟨hd, ?_, ?_⟩
  · unfold nodesN; omega
  · unfold nPin; rw [e, Int.add_comm, Int.add_mul_emod_self_right, Int.emod_eq_of_lt (by omega) (by omega)]; omega
def wsOk (d : Dev) (xs : List Int) (k : Nat) : Prop := isWireP d (nsAt xs k) ∧ (0 < k → nsAt xs (k - 1) < nsAt xs k)
instance (d : Dev) (xs : List Int) (k : Nat) : Decidable (wsOk d xs k) := by unfold wsOk; exact inferInstance
end Go.Pf

