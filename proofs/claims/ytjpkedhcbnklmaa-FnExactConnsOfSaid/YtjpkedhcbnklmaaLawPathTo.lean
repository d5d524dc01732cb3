/-
  Own work. The law of paths, plainly: it says true.
-/
import Derived.Test.YtjpkedhcbnklmaaPath
namespace Go.Pf
open Go Go.Pu
theorem szIntS_ok (xs : List Int) (b : Int) (hb : 0 ≤ b) (hb2 : b ≤ 1048576) (h : xs.length ≤ 9223372036854775807) : (b < xs.length ∧ laws_szIntS (xs, b) = some (-1)) ∨ ((xs.length : Int) ≤ b ∧ laws_szIntS (xs, b) = some (b - xs.length)) := by
  unfold laws_szIntS
  simp only
  rw [wrap_id (by omega) (by omega)]
  by_cases hn : b - (xs.length : Int) < 0
  · left
    have e : decide (b - (xs.length : Int) < 0) = true := decide_eq_true hn
    exact ⟨by omega, by rw [e]; rfl⟩
  · right
    have e : decide (b - (xs.length : Int) < 0) = false := decide_eq_false hn
    exact ⟨by omega, by rw [e]; rfl⟩
end Go.Pf

