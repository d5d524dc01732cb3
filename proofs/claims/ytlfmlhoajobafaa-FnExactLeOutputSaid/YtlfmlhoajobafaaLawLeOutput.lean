/-
  Own work. The law, plainly: it says true.
-/
import Derived.Test.YtlfmlhoajobafaaLep
namespace Go.Pf
open Go Go.Pu
set_option linter.unusedVariables false
theorem law_FnExactLeOutput (x : ((Int × (List (Int × (Int × List Int)) × (List (List Int × Int) × List Int))) × (Int × Int))) (h : InR (tP (tP tI (tP (tS 0 (tP tI (tP tI (tS 0 tI)))) (tP (tS 0 (tP (tS 0 tI) tI)) (tS 0 tI)))) (tP tI tI)) x) : laws_FnExactLeOutput x = some true := by
  obtain ⟨n, y⟩ := x
  obtain ⟨⟨_, ⟨h1, h2⟩, ⟨h3, h4⟩, ⟨h5, _⟩⟩, hy⟩ := h
  unfold laws_FnExactLeOutput
  try dsimp only
  rcases szNet_ok n (Nat.le_trans h1 (by decide)) (fun s hs => Nat.le_trans (h2 s hs).2.2.1 (by decide)) (Nat.le_trans h3 (by decide)) (fun l hl => Nat.le_trans (h4 l hl).1.1 (by decide)) (Nat.le_trans h5 (by decide)) 1048576 (by omega) (by omega) with e | ⟨hb, z, z0, z1, e⟩
  · rw [e]; rfl
  rw [e]
  simp only [Option.bind_some]
  rw [df (by omega), cond_false]
  have el : ∀ e : Le, laws_toLe e = some e := fun _ => rfl
  simp only [toNet_ok n hb, el, Option.bind_some, lout_spec n y hb, lout_impl n y hb, ne_eq, not_true_eq_false, decide_false, cond_false, eqNet_refl n hb, Bool.not_true]
end Go.Pf
