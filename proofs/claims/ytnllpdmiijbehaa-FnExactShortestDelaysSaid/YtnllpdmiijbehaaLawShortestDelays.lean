/-
  Own work. The law, plainly: it says true.
-/
import Derived.Test.YtnllpdmiijbehaaDly
namespace Go.Pf
open Go Go.Pu
theorem law_FnExactShortestDelays (x : ((Int × List (Int × (Int × Int))) × Int)) (h : InR (tP (tP tI (tS 0 (tP tI (tP tI tI)))) tI) x) : laws_FnExactShortestDelays x = some true := by
  obtain ⟨g, v⟩ := x
  obtain ⟨⟨_, ⟨hg, _⟩⟩, _⟩ := h
  unfold laws_FnExactShortestDelays
  simp only
  rcases szTG_ok g (Nat.le_trans hg (by decide)) 1048576 (by omega) (by omega) with e | ⟨hg, z, z0, z1, e⟩
  · rw [e]; rfl
  rw [e]
  simp only [Option.bind_some]
  rw [df (by omega), cond_false]
  have hl := delP_len g v false
  obtain ⟨r, hr, hr0, _⟩ := markTG_ok g 1 (by omega) (by omega) hg
  simp only [Option.bind_some, toTG_ok g hg, short_spec, short_impl, cond_false, eqTG_refl g hg, eqIntS_ok (delP g v false) (delP g v false) (by omega), decide_true, Bool.not_true, hr, df (show ¬ (r.1 < 0) by omega)]
  rw [markIntS_ok (delP g v false) 1 (by omega) (by omega) (by omega)]
  simp only [Option.bind_some, heldIntS_ok 1 (delP g v false).length (by omega) (by omega) (by omega), df (show ¬ (1 + ((delP g v false).length : Int) < 0) by omega), cond_false, ne_eq, not_true_eq_false, decide_false]
end Go.Pf
