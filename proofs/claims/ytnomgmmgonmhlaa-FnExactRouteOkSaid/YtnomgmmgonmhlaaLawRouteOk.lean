/-
  Own work. The law, plainly: it says true.
-/
import Derived.Test.YtnomgmmgonmhlaaRok
namespace Go.Pf
open Go Go.Pu
theorem law_FnExactRouteOk (x : ((Int × (Int × (Int × Int))) × (Int × (List Int × (List Int × List Int))))) (h : InR (tP (tP tI (tP tI (tP tI tI))) (tP tI (tP (tS 0 tI) (tP (tS 0 tI) (tS 0 tI))))) x) : laws_FnExactRouteOk x = some true := by
  obtain ⟨d, src, ss, a, b⟩ := x
  obtain ⟨_, hs, _, ⟨ha, _⟩, ⟨hb, _⟩⟩ := h
  unfold laws_FnExactRouteOk laws_toDevice
  simp only
  by_cases h1 : 1048576 < (ss.length : Int)
  · rw [dt h1]; rfl
  rw [df h1, cond_false]
  rcases szRoute_ok a b (Nat.le_trans ha (by decide)) (Nat.le_trans hb (by decide)) with e | ⟨ha, hb, z, hz, e⟩
  · rw [e]; rfl
  rw [e]
  simp only [Option.bind_some, df (show ¬ (z < 0) by omega), cond_false, toIntS_ok ss (by omega), toRoute_ok a b ha hb, ro_spec d src ss a b (by omega), ro_impl d src ss a b (by omega) hs.2, beq_self_eq_true, Bool.xor_true, Bool.not_true, eqIntS_ok ss ss (by omega), eqRoute_ok a b a b ha hb, and_self, decide_true, Bool.true_xor]
end Go.Pf
