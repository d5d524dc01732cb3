/-
  Own work. The law, plainly: it says true.
-/
import Derived.Test.YtamaghlnjchhbaaCns
namespace Go.Pf
open Go Go.Pu
theorem law_FnExactConnSpan (x : ((Int × (Int × (Int × Int))) × (List Int × (Int × ((Int × Int) × List (Int × Int)))))) (h : InR (tP (tP tI (tP tI (tP tI tI))) (tP (tS 0 tI) (tP tI (tP (tP tI tI) (tS 0 (tP tI tI)))))) x) : laws_FnExactConnSpan x = some true := by
  obtain ⟨d, ps, c⟩ := x
  obtain ⟨_, ⟨_, hp⟩, ⟨_, _, ⟨hc, _⟩⟩⟩ := h
  have hp : ∀ p ∈ ps, p ≤ 9223372036854775807 := fun p hm => (hp p hm).2
  unfold laws_FnExactConnSpan laws_toDevice
  simp only
  by_cases h1 : 1048576 < (ps.length : Int)
  · rw [dt h1]; rfl
  rw [df h1, cond_false]
  rcases szConn_ok c (Nat.le_trans hc (by decide)) 1048576 (by omega) (by omega) with e | ⟨hok, z, z0, z1, e⟩
  · rw [e]; rfl
  rw [e]
  simp only [Option.bind_some]
  rw [df (by omega), cond_false]
  simp only [toIntS_ok ps (by omega), toConn_ok c hok, Option.bind_some, span_spec d ps c hp hok, span_impl d ps c hp (by omega) hok, ne_eq, not_true_eq_false, decide_false, cond_false, eqIntS_ok ps ps (by omega), eqConn_refl c hok, decide_true, Bool.not_true]
end Go.Pf
