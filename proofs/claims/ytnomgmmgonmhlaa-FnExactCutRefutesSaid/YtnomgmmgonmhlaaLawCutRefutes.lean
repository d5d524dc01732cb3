/-
  Own work. The law, plainly: it says true.
-/
import Derived.Test.YtnomgmmgonmhlaaSpc
import Derived.Test.YtnomgmmgonmhlaaMcs
namespace Go.Pf
open Go Go.Pu
theorem law_FnExactCutRefutes (x : ((Int × (Int × (Int × Int))) × (List Int × (List (Int × ((Int × Int) × List (Int × Int))) × List Int)))) (h : InR (tP (tP tI (tP tI (tP tI tI))) (tP (tS 0 tI) (tP (tS 0 (tP tI (tP (tP tI tI) (tS 0 (tP tI tI))))) (tS 0 tI)))) x) : laws_FnExactCutRefutes x = some true := by
  obtain ⟨d, ps, cs, cut⟩ := x
  obtain ⟨_, ⟨_, hp⟩, ⟨hc, hcs⟩, _⟩ := h
  have hp : PsR ps := fun p hm => (hp p hm).2
  unfold laws_FnExactCutRefutes laws_toDevice
  simp only
  by_cases h1 : 1048576 < (ps.length : Int)
  · rw [dt h1]; rfl
  rw [df h1, cond_false]
  by_cases h2 : 1048576 < (cut.length : Int)
  · rw [dt h2]; rfl
  rw [df h2, cond_false]
  rcases szCnsB_ok cs (Nat.le_trans hc (by decide)) (fun c hm => Nat.le_trans (hcs c hm).2.2.1 (by decide)) with e | ⟨hb, z, z0, z1, e⟩
  · rw [e]; rfl
  have hok := hb.ok
  rw [e]
  simp only [Option.bind_some]
  rw [df (by omega), cond_false]
  simp only [toIntS_ok ps (by omega), toIntS_ok cut (by omega), toConnS_ok cs hok, Option.bind_some, ref_spec d ps cs cut hp hok (by omega), ref_impl d ps cs cut hp (by omega) hok (by omega), cond_false, beq_self_eq_true, Bool.true_xor, eqIntS_ok ps ps (by omega), eqIntS_ok cut cut (by omega), eqConnS_refl cs hok, decide_true, Bool.not_true]
end Go.Pf
