/-
  Own work. The law, plainly: it says true.
-/
import Derived.Test.YtnomgmmgonmhlaaSpc
import Derived.Test.YtnomgmmgonmhlaaMcs
namespace Go.Pf
open Go Go.Pu
theorem law_FnExactFindRefutation (x : ((Int × (Int × (Int × Int))) × (List Int × List (Int × ((Int × Int) × List (Int × Int)))))) (h : InR (tP (tP tI (tP tI (tP tI tI))) (tP (tS 0 tI) (tS 0 (tP tI (tP (tP tI tI) (tS 0 (tP tI tI))))))) x) : laws_FnExactFindRefutation x = some true := by
  obtain ⟨d, ps, cs⟩ := x
  obtain ⟨_, ⟨_, hp⟩, ⟨hc, hcs⟩⟩ := h
  have hp : PsR ps := fun p hm => (hp p hm).2
  unfold laws_FnExactFindRefutation laws_toDevice
  simp only
  by_cases h1 : 1048576 < (ps.length : Int)
  · rw [dt h1]; rfl
  rw [df h1, cond_false]
  rcases szCnsB_ok cs (Nat.le_trans hc (by decide)) (fun c hm => Nat.le_trans (hcs c hm).2.2.1 (by decide)) with e | ⟨hb, z, z0, z1, e⟩
  · rw [e]; rfl
  have hok := hb.ok
  rw [e]
  simp only [Option.bind_some]
  rw [df (by omega), cond_false]
  obtain ⟨r, hr, hr0⟩ := markCns_ok cs (1 + (ps.length : Int)) (by omega) (by omega) hb
  have hl := frP_len d ps cs
  have hl2 : (frP d ps cs).1.length ≤ 1048576 := by omega
  simp only [toIntS_ok ps (by omega), toConnS_ok cs hok, Option.bind_some, fr_spec d ps cs hp hok, fr_impl d ps cs hp (by omega) hok, cond_false, beq_self_eq_true, Bool.true_xor, eqIntS_ok ps ps (by omega), eqIntS_ok (frP d ps cs).1 (frP d ps cs).1 (by omega), eqConnS_refl cs hok, decide_true, Bool.not_true]
  rw [markIntS_ok ps 1 (by omega) (by omega) (by omega)]
  simp only [Option.bind_some, hr, df (show ¬ (r.1 < 0) by omega), cond_false]
  rw [markIntS_ok (frP d ps cs).1 1 (by omega) (by omega) hl2]
  simp only [Option.bind_some, heldIntS_ok 1 (frP d ps cs).1.length (by omega) (by omega) hl2, df (show ¬ (1 + ((frP d ps cs).1.length : Int) < 0) by omega), cond_false, ne_eq, not_true_eq_false, decide_false]
end Go.Pf
