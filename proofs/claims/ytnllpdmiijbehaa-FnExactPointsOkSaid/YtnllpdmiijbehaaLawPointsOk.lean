/-
  Own work. The law, plainly: it says true.
-/
import Derived.Test.YtnllpdmiijbehaaTma
namespace Go.Pf
open Go Go.Pu
theorem law_FnExactPointsOk (x : ((Int × List (Int × (Int × Int))) × List (Int × Int))) (h : InR (tP (tP tI (tS 0 (tP tI (tP tI tI)))) (tS 0 (tP tI tI))) x) : laws_FnExactPointsOk x = some true := by
  obtain ⟨g, ps⟩ := x
  obtain ⟨⟨_, ⟨hg, _⟩⟩, ⟨hp, _⟩⟩ := h
  unfold laws_FnExactPointsOk
  simp only
  rcases szTG_ok g (Nat.le_trans hg (by decide)) 1048576 (by omega) (by omega) with e | ⟨hg, z, z0, z1, e⟩
  · rw [e]; rfl
  rw [e]
  simp only [Option.bind_some]
  rw [df (by omega), cond_false]
  rcases szPointS_ok ps (Nat.le_trans hp (by decide)) z z0 z1 with e | ⟨hp, y, y0, y1, e⟩
  · rw [e]; rfl
  rw [e]
  simp only [Option.bind_some]
  rw [df (by omega), cond_false]
  simp only [Option.bind_some, toTG_ok g hg, toPointS_ok ps hp, pts_spec, pts_impl, beq_self_eq_true, Bool.xor_self, cond_false, eqTG_refl g hg, eqPointS_refl ps hp, Bool.not_true]
end Go.Pf
