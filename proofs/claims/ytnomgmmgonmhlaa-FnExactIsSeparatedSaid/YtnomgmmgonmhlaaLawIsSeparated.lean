/-
  Own work. The law, plainly: it says true.
-/
import Derived.Test.YtnomgmmgonmhlaaSep
import Derived.Test.YtnomgmmgonmhlaaMcs
namespace Go.Pf
open Go Go.Pu
theorem law_FnExactIsSeparated (x : ((Int × (Int × (Int × Int))) × (List Int × ((Int × ((Int × Int) × List (Int × Int))) × List Int)))) (h : InR (tP (tP tI (tP tI (tP tI tI))) (tP (tS 0 tI) (tP (tP tI (tP (tP tI tI) (tS 0 (tP tI tI)))) (tS 0 tI)))) x) : laws_FnExactIsSeparated x = some true := by
  obtain ⟨d, ps, c, cut⟩ := x
  obtain ⟨_, ⟨_, hp⟩, ⟨_, _, ⟨hc, _⟩⟩, _⟩ := h
  have hp : PsR ps := fun p hm => (hp p hm).2
  unfold laws_FnExactIsSeparated laws_toDevice
  simp only
  by_cases h1 : 1048576 < (ps.length : Int)
  · rw [dt h1]; rfl
  rw [df h1, cond_false]
  by_cases h2 : 1048576 < (cut.length : Int)
  · rw [dt h2]; rfl
  rw [df h2, cond_false]
  rcases szConn_ok c (Nat.le_trans hc (by decide)) 1048576 (by omega) (by omega) with e | ⟨hok, z, z0, z1, e⟩
  · rw [e]; rfl
  rw [e]
  simp only [Option.bind_some]
  rw [df (by omega), cond_false]
  simp only [toIntS_ok ps (by omega), toIntS_ok cut (by omega), toConn_ok c hok, Option.bind_some, isSep_spec d ps c cut hp hok (by omega), isSep_impl d ps c cut hp (by omega) hok (by omega), cond_false, eqIntS_ok ps ps (by omega), eqIntS_ok cut cut (by omega), eqConn_refl c hok, beq_self_eq_true, Bool.true_xor, decide_true, Bool.not_true]
end Go.Pf
