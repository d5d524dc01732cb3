/-
  Own work. Cuts by a line, plainly.
-/
import Derived.Test.YtjpkedhcbnklmaaDve
namespace Go.Pf
open Go Go.Pu
set_option linter.unusedVariables false

theorem stp_ok {d : Int × (Int × (Int × Int))} {t dir len : Int} (h : DOk d) (h0 : 0 ≤ stp d t dir len) : stp d t dir len % d.1 = stpX d t dir len ∧ stp d t dir len / d.1 = stpY d t dir len ∧ stp d t dir len < d.1 * d.2.1 ∧ ((0 ≤ stpX d t dir len ∧ stpX d t dir len ≤ d.1 - 1) ∧ (0 ≤ stpY d t dir len ∧ stpY d t dir len ≤ d.2.1 - 1)) := by
  have hw := h.1
  have e : stp d t dir len = if (0 ≤ stpX d t dir len ∧ stpX d t dir len ≤ d.1 - 1) ∧ (0 ≤ stpY d t dir len ∧ stpY d t dir len ≤ d.2.1 - 1) then stpY d t dir len * d.1 + stpX d t dir len else -1 := rfl
  by_cases q : (0 ≤ stpX d t dir len ∧ stpX d t dir len ≤ d.1 - 1) ∧ (0 ≤ stpY d t dir len ∧ stpY d t dir len ≤ d.2.1 - 1)
  · rw [if_pos q] at e
    rw [e]
    generalize stpX d t dir len = x at *
    generalize stpY d t dir len = y at *
    have e1 : (y * d.1 + x) % d.1 = x := by
      rw [Int.add_comm, Int.add_mul_emod_self_right]
      exact Int.emod_eq_of_lt (by omega) (by omega)
    have e2 : (y * d.1 + x) / d.1 = y := by
      rw [Int.add_comm, Int.add_mul_ediv_right _ _ (by omega)]
      rw [Int.ediv_eq_zero_of_lt (by omega) (by omega)]; omega
    refine ⟨e1, e2, ?_, q⟩
    have h1 : y * d.1 ≤ (d.2.1 - 1) * d.1 := Int.mul_le_mul_of_nonneg_right (by omega) (by omega)
    have h2 : (d.2.1 - 1) * d.1 = d.1 * d.2.1 - d.1 := by rw [Int.sub_mul, Int.one_mul, Int.mul_comm]
    omega
  · rw [if_neg q] at e; omega
end Go.Pf

