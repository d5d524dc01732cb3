/-
  Own work. The law, plainly: it says true.
-/
import Derived.Test.YtamaghlnjchhbaaPla
namespace Go.Pf
open Go Go.Pu
theorem law_FnExactPlaceOk (x : ((Int × (Int × (Int × Int))) × (List Int × List Int))) (h : InR (tP (tP tI (tP tI (tP tI tI))) (tP (tS 0 tI) (tS 0 tI))) x) : laws_FnExactPlaceOk x = some true := by
  obtain ⟨d, a, b⟩ := x
  obtain ⟨_, ⟨_, _⟩, ⟨_, hb⟩⟩ := h
  unfold laws_FnExactPlaceOk laws_toDevice
  simp only
  by_cases h1 : 1048576 < (a.length : Int)
  · rw [dt h1]; rfl
  rw [df h1, cond_false]
  by_cases h2 : 1048576 < (b.length : Int)
  · rw [dt h2]; rfl
  rw [df h2, cond_false]
  have hp : ∀ p ∈ b, p ≤ 9223372036854775807 := fun p hp => (hb p hp).2
  simp only [Option.bind_some, toIntS_ok a (by omega), toIntS_ok b (by omega), place_spec d a b hp, place_impl d a b hp, beq_self_eq_true, Bool.xor_self, cond_false, eqIntS_ok a a (by omega), eqIntS_ok b b (by omega), decide_true, Bool.not_true]
end Go.Pf
