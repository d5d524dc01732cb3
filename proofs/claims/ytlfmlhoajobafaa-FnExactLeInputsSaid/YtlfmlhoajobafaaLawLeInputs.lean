/-
  Own work. The law, plainly: it says true.
-/
import Derived.Test.YtlfmlhoajobafaaLep
namespace Go.Pf
open Go Go.Pu
set_option linter.unusedVariables false
theorem law_FnExactLeInputs (x : ((Int × (List (Int × (Int × List Int)) × (List (List Int × Int) × List Int))) × (Int × Int))) (h : InR (tP (tP tI (tP (tS 0 (tP tI (tP tI (tS 0 tI)))) (tP (tS 0 (tP (tS 0 tI) tI)) (tS 0 tI)))) (tP tI tI)) x) : laws_FnExactLeInputs x = some true := by
  obtain ⟨n, y⟩ := x
  obtain ⟨⟨_, ⟨h1, h2⟩, ⟨h3, h4⟩, ⟨h5, _⟩⟩, hy⟩ := h
  unfold laws_FnExactLeInputs
  try dsimp only
  rcases szNet_ok n (Nat.le_trans h1 (by decide)) (fun s hs => Nat.le_trans (h2 s hs).2.2.1 (by decide)) (Nat.le_trans h3 (by decide)) (fun l hl => Nat.le_trans (h4 l hl).1.1 (by decide)) (Nat.le_trans h5 (by decide)) 1048576 (by omega) (by omega) with e | ⟨hb, z, z0, z1, e⟩
  · rw [e]; rfl
  rw [e]
  simp only [Option.bind_some]
  rw [df (by omega), cond_false]
  have el : ∀ e : Le, laws_toLe e = some e := fun _ => rfl
  have hlen := lins_len n y
  have hl2 : (lins n y).length ≤ 1048576 := by omega
  obtain ⟨r, hr, hr0, _⟩ := markNet_ok n 1 (by omega) (by omega) hb
  simp only [toNet_ok n hb, el, Option.bind_some, lins_spec n y hb, lins_impl n y hb, cond_false, eqNet_refl n hb, eqIntS_ok (lins n y) (lins n y) (by omega), decide_true, Bool.not_true, hr, df (show ¬ (r.1 < 0) by omega)]
  rw [markIntS_ok (lins n y) 1 (by omega) (by omega) hl2]
  simp only [Option.bind_some, heldIntS_ok 1 (lins n y).length (by omega) (by omega) hl2, df (show ¬ (1 + ((lins n y).length : Int) < 0) by omega), cond_false, ne_eq, not_true_eq_false, decide_false]
end Go.Pf
