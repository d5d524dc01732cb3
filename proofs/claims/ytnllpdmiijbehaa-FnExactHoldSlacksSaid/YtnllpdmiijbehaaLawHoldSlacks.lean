/-
  Own work. The law, plainly: it says true.
-/
import Derived.Test.YtnllpdmiijbehaaSll
namespace Go.Pf
open Go Go.Pu
theorem hold_law (g : TG) (ps qs : List Pt) (xs : List Exc) (hg : g.2.length ≤ 9223372036854775807) (hp : ps.length ≤ 9223372036854775807) (hq : qs.length ≤ 9223372036854775807) (hx : xs.length ≤ 9223372036854775807) : laws_FnExactHoldSlacks (g, (ps, (qs, xs))) = some true := by
  unfold laws_FnExactHoldSlacks
  simp only
  rcases szTG_ok g hg 1048576 (by omega) (by omega) with e | ⟨hg, z, z0, z1, e⟩
  · rw [e]; rfl
  rw [e]
  simp only [Option.bind_some]
  rw [df (by omega), cond_false]
  rcases szPointS_ok ps hp z z0 z1 with e | ⟨hp, y, y0, y1, e⟩
  · rw [e]; rfl
  rw [e]
  simp only [Option.bind_some]
  rw [df (by omega), cond_false]
  rcases szPointS_ok qs hq y y0 (by omega) with e | ⟨hq, u, u0, u1, e⟩
  · rw [e]; rfl
  rw [e]
  simp only [Option.bind_some]
  rw [df (by omega), cond_false]
  rcases szExcS_ok xs hx u u0 (by omega) with e | ⟨hx, w, w0, w1, e⟩
  · rw [e]; rfl
  rw [e]
  simp only [Option.bind_some]
  rw [df (by omega), cond_false]
  have hlen : (holdP g ps qs xs).length ≤ 1048576 := Nat.le_trans (holdP_len g ps qs xs) hq
  unfold TGOk at hg
  obtain ⟨r1, e1, b1, c1⟩ := markTG_ok g 1 (by omega) (by omega) hg
  obtain ⟨r2, e2, b2, c2⟩ := markPtS_ok ps r1.1 b1 (by omega) hp
  obtain ⟨r3, e3, b3, c3⟩ := markPtS_ok qs r2.1 b2 (by omega) hq
  obtain ⟨r4, e4, b4, c4⟩ := markExcS_ok xs r3.1 b3 (by omega) hx
  simp only [Option.bind_some, toTG_ok g hg, toPointS_ok ps hp, toPointS_ok qs hq, toExcS_ok xs hx, hold_spec, hold_impl, cond_false, eqTG_refl g hg, eqPointS_refl ps hp, eqPointS_refl qs hq, eqExcS_refl xs hx, eqIntS_ok (holdP g ps qs xs) (holdP g ps qs xs) (by omega), decide_true, Bool.not_true, e1, e2, e3, e4, df (show ¬ (r4.1 < 0) by omega)]
  rw [markIntS_ok (holdP g ps qs xs) 1 (by omega) (by omega) hlen]
  simp only [Option.bind_some, heldIntS_ok 1 (holdP g ps qs xs).length (by omega) (by omega) hlen, df (show ¬ (1 + ((holdP g ps qs xs).length : Int) < 0) by omega), cond_false, ne_eq, not_true_eq_false, decide_false]
theorem law_FnExactHoldSlacks (x : ((Int × List (Int × (Int × Int))) × (List (Int × Int) × (List (Int × Int) × List (Int × (Int × Int)))))) (h : InR (tP (tP tI (tS 0 (tP tI (tP tI tI)))) (tP (tS 0 (tP tI tI)) (tP (tS 0 (tP tI tI)) (tS 0 (tP tI (tP tI tI)))))) x) : laws_FnExactHoldSlacks x = some true := by
  obtain ⟨g, ps, qs, xs⟩ := x
  obtain ⟨⟨_, ⟨hg, _⟩⟩, ⟨hp, _⟩, ⟨hq, _⟩, ⟨hx, _⟩⟩ := h
  exact hold_law g ps qs xs (Nat.le_trans hg (by decide)) (Nat.le_trans hp (by decide)) (Nat.le_trans hq (by decide)) (Nat.le_trans hx (by decide))
end Go.Pf
