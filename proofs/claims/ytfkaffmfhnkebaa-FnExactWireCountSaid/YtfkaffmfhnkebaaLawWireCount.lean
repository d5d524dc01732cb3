/-
  Own work. The law, plainly: it says true.
-/
import Derived.Test.YtfkaffmfhnkebaaDve
namespace Go.Pf
open Go Go.Pu
theorem law_FnExactWireCount (x : ((Int × (Int × (Int × Int))) × (List Int × List Int))) (h : InR (tP (tP tI (tP tI (tP tI tI))) (tP (tS 0 tI) (tS 0 tI))) x) : laws_FnExactWireCount x = some true := by
  obtain ⟨d, a, b⟩ := x
  obtain ⟨_, ⟨ha, _⟩, ⟨hb, _⟩⟩ := h
  unfold laws_FnExactWireCount laws_toDevice
  simp only
  rcases szRoute_ok a b (Nat.le_trans ha (by decide)) (Nat.le_trans hb (by decide)) with e | ⟨ha, hb, z, hz, e⟩
  · rw [e]; rfl
  · rw [e]
    simp only [Option.bind_some, df (show ¬ (z < 0) by omega), cond_false, toRoute_ok a b ha hb, wireCount_spec d a b ha, wireCount_impl d a b ha, ne_eq, not_true_eq_false, decide_false, eqRoute_ok a b a b ha hb, and_self, decide_true, Bool.not_true]
end Go.Pf
