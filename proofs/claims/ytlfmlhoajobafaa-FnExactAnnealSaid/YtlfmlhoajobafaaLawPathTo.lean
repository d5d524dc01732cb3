/-
  Own work. The law of paths, plainly: it says true.
-/
import Derived.Test.YtlfmlhoajobafaaPath
namespace Go.Pf
open Go Go.Pu
theorem szIntS_ok (xs : List Int) (b : Int) (hb : 0 ≤ b) (hb2 : b ≤ 1048576) (h : xs.length ≤ 9223372036854775807) : (b < xs.length ∧ laws_szIntS (xs, b) = some (-1)) ∨ ((xs.length : Int) ≤ b ∧ laws_szIntS (xs, b) = some (b - xs.length)) := by
  unfold laws_szIntS
  simp only
  rw [wrap_id (by omega) (by omega)]
  by_cases hn : b - (xs.length : Int) < 0
  · left
    have e : decide (b - (xs.length : Int) < 0) = true := decide_eq_true hn
    exact ⟨by omega, by rw [e]; rfl⟩
  · right
    have e : decide (b - (xs.length : Int) < 0) = false := decide_eq_false hn
    exact ⟨by omega, by rw [e]; rfl⟩
theorem toRoute_ok (a b : List Int) (ha : a.length ≤ 1048576) (hb : b.length ≤ 1048576) : laws_toRoute (a, b) = some (a, b) := by
  unfold laws_toRoute
  simp only [toIntS_ok a ha, toIntS_ok b hb, Option.bind_some]
theorem eqRoute_ok (a b c d : List Int) (ha : a.length ≤ 1048576) (hb : b.length ≤ 1048576) : laws_eqRoute ((a, b), (c, d)) = some (decide (a = c ∧ b = d)) := by
  unfold laws_eqRoute
  simp only [eqIntS_ok a c (by omega), eqIntS_ok b d (by omega), Option.bind_some]
  by_cases h1 : a = c
  · by_cases h2 : b = d
    · simp [h1, h2]
    · simp [h1, h2]
  · simp [h1]
theorem markRoute_ok (a b : List Int) (ha : a.length ≤ 1048576) (hb : b.length ≤ 1048576) : ∃ r, laws_markRoute ((a, b), 1) = some r ∧ 0 ≤ r.1 := by
  unfold laws_markRoute
  simp only [markIntS_ok a 1 (by omega) (by omega) ha, Option.bind_some]
  rw [markIntS_ok b (1 + (a.length : Int)) (by omega) (by omega) hb]
  exact ⟨_, rfl, by simp only; omega⟩
theorem path_law (a b : List Int) (k : Int) (ha : a.length ≤ 9223372036854775807) (hb : b.length ≤ 9223372036854775807) : laws_FnExactPathTo ((a, b), k) = some true := by
  unfold laws_FnExactPathTo
  simp only
  have hsz : (laws_szRoute ((a, b), 1048576) = some (-1)) ∨ (a.length ≤ 1048576 ∧ b.length ≤ 1048576 ∧ ∃ z, 0 ≤ z ∧ laws_szRoute ((a, b), 1048576) = some z) := by
    unfold laws_szRoute
    simp only
    rcases szIntS_ok a 1048576 (by omega) (by omega) ha with ⟨_, e⟩ | ⟨h1, e⟩
    · left; rw [e]; rfl
    · rw [e]
      have d1 : decide (1048576 - (a.length : Int) < 0) = false := decide_eq_false (by omega)
      simp only [Option.bind_some, d1, cond_false]
      rcases szIntS_ok b (1048576 - (a.length : Int)) (by omega) (by omega) hb with ⟨_, e⟩ | ⟨h2, e⟩
      · left; rw [e]; rfl
      · right
        refine ⟨by omega, by omega, 1048576 - (a.length : Int) - (b.length : Int), by omega, ?_⟩
        rw [e]
        have d2 : decide (1048576 - (a.length : Int) - (b.length : Int) < 0) = false := decide_eq_false (by omega)
        simp only [Option.bind_some, d2, cond_false]
  rcases hsz with e | ⟨ha, hb, z, hz, e⟩
  · rw [e]; rfl
  · rw [e]
    have d1 : decide (z < 0) = false := decide_eq_false (by omega)
    obtain ⟨o, ho, hs, hi⟩ := path_ok a b k ha
    obtain ⟨r, hr, hr0⟩ := markRoute_ok a b ha hb
    have d2 : decide (r.1 < 0) = false := decide_eq_false (by omega)
    simp only [Option.bind_some, d1, cond_false, toRoute_ok a b ha hb, hs, hi, eqIntS_ok o o (by omega), eqRoute_ok a b a b ha hb, hr, d2, decide_true, Bool.not_true, and_self]
    rw [markIntS_ok o 1 (by omega) (by omega) ho]
    have d3 : decide (1 + (o.length : Int) < 0) = false := decide_eq_false (by omega)
    simp only [Option.bind_some, heldIntS_ok 1 o.length (by omega) (by omega) ho, d3, cond_false, ne_eq, not_true_eq_false, decide_false]

theorem law_FnExactPathTo (x : ((List Int × List Int) × Int)) (h : InR (tP (tP (tS 0 tI) (tS 0 tI)) tI) x) : laws_FnExactPathTo x = some true := by
  obtain ⟨⟨a, b⟩, k⟩ := x
  obtain ⟨⟨⟨ha, _⟩, ⟨hb, _⟩⟩, _⟩ := h
  exact path_law a b k (Nat.le_trans ha (by decide)) (Nat.le_trans hb (by decide))
end Go.Pf
