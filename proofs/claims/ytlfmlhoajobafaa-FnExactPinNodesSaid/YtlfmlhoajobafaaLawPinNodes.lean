/-
  Own work. The law, plainly: it says true.
-/
import Derived.Test.YtlfmlhoajobafaaBlk
namespace Go.Pf
open Go Go.Pu
set_option linter.unusedVariables false
theorem law_FnExactPinNodes (x : ((Int × (List (Int × (Int × List Int)) × (List (List Int × Int) × List Int))) × (Int × (Int × List (Int × Int))))) (h : InR (tP (tP tI (tP (tS 0 (tP tI (tP tI (tS 0 tI)))) (tP (tS 0 (tP (tS 0 tI) tI)) (tS 0 tI)))) (tP tI (tP tI (tS 0 (tP tI tI))))) x) : laws_FnExactPinNodes x = some true := by
  obtain ⟨n, y⟩ := x
  obtain ⟨⟨_, ⟨h1, h2⟩, ⟨h3, h4⟩, ⟨h5, _⟩⟩, hy⟩ := h
  unfold laws_FnExactPinNodes
  try dsimp only
  rcases szNet_ok n (Nat.le_trans h1 (by decide)) (fun s hs => Nat.le_trans (h2 s hs).2.2.1 (by decide)) (Nat.le_trans h3 (by decide)) (fun l hl => Nat.le_trans (h4 l hl).1.1 (by decide)) (Nat.le_trans h5 (by decide)) 1048576 (by omega) (by omega) with e | ⟨hb, z, z0, z1, e⟩
  · rw [e]; rfl
  rw [e]
  simp only [Option.bind_some]
  rw [df (by omega), cond_false]
  obtain ⟨_, _, ⟨hy, _⟩⟩ := hy
  rcases szBlk_ok y (Nat.le_trans hy (by decide)) z z0 (by omega) with e2 | ⟨hbl, w, w0, w1, e2⟩
  · rw [e2]; rfl
  rw [e2]
  simp only [Option.bind_some]
  rw [df (by omega), cond_false]
  have hl2 : ((if (netP n && itemP n y) = true then pinN n y else [])).length ≤ 1048576 := by
    split
    · rename_i hq
      rw [Bool.and_eq_true] at hq
      have := pinN_len hq.1 hq.2
      omega
    · simp
  obtain ⟨r, hr, hr0, hr1⟩ := markNet_ok n 1 (by omega) (by omega) hb
  obtain ⟨q, hq, hq0⟩ := markBlk_ok y r.1 hr0 (by omega) hbl
  have es := pinNodes_spec n y hb hbl
  have ei := pinNodes_impl n y hb hbl
  generalize (if (netP n && itemP n y) = true then pinN n y else []) = o at *
  simp only [toNet_ok n hb, toBlk_ok y hbl, Option.bind_some, es, ei, cond_false, eqNet_refl n hb, eqBlk_refl y hbl, eqIntS_ok o o (by omega), decide_true, Bool.not_true, hr, hq, df (show ¬ (q.1 < 0) by omega)]
  rw [markIntS_ok o 1 (by omega) (by omega) hl2]
  simp only [Option.bind_some, heldIntS_ok 1 o.length (by omega) (by omega) hl2, df (show ¬ (1 + (o.length : Int) < 0) by omega), cond_false, ne_eq, not_true_eq_false, decide_false]
end Go.Pf
