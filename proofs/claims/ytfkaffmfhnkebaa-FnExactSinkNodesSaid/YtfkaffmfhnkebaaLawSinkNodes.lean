/-
  Own work. The law, plainly: it says true.
-/
import Derived.Test.YtfkaffmfhnkebaaCna
namespace Go.Pf
open Go Go.Pu
theorem law_FnExactSinkNodes (x : ((Int × (Int × (Int × Int))) × (List Int × (Int × ((Int × Int) × List (Int × Int)))))) (h : InR (tP (tP tI (tP tI (tP tI tI))) (tP (tS 0 tI) (tP tI (tP (tP tI tI) (tS 0 (tP tI tI)))))) x) : laws_FnExactSinkNodes x = some true := by
  obtain ⟨d, ps, c⟩ := x
  obtain ⟨_, ⟨_, hp⟩, ⟨_, _, ⟨hc, _⟩⟩⟩ := h
  have hp : PsR ps := fun p hm => (hp p hm).2
  unfold laws_FnExactSinkNodes laws_toDevice
  simp only
  by_cases h1 : 1048576 < (ps.length : Int)
  · rw [dt h1]; rfl
  rw [df h1, cond_false]
  rcases szConn_ok c (Nat.le_trans hc (by decide)) 1048576 (by omega) (by omega) with e | ⟨hok, z, z0, z1, e⟩
  · rw [e]; rfl
  rw [e]
  simp only [Option.bind_some]
  rw [df (by omega), cond_false]
  have hlen : (snksP d ps c.2.2).length ≤ 1048576 := Nat.le_trans (snks_len d ps c.2.2) hok
  obtain ⟨r, hr, hr0, _⟩ := markConn_ok c (1 + (ps.length : Int)) (by omega) (by omega) hok
  simp only [toIntS_ok ps (by omega), toConn_ok c hok, Option.bind_some, snks_spec d ps c hp hok, snks_impl d ps c hp (by omega) hok, cond_false, eqIntS_ok ps ps (by omega), eqConn_refl c hok, eqIntS_ok (snksP d ps c.2.2) (snksP d ps c.2.2) (by omega), decide_true, Bool.not_true]
  rw [markIntS_ok ps 1 (by omega) (by omega) (by omega)]
  simp only [Option.bind_some, hr, df (show ¬ (r.1 < 0) by omega), cond_false]
  rw [markIntS_ok (snksP d ps c.2.2) 1 (by omega) (by omega) hlen]
  simp only [Option.bind_some, heldIntS_ok 1 (snksP d ps c.2.2).length (by omega) (by omega) hlen, df (show ¬ (1 + ((snksP d ps c.2.2).length : Int) < 0) by omega), cond_false, ne_eq, not_true_eq_false, decide_false]
end Go.Pf
