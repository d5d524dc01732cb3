/-
  Own work. The law, plainly: it says true.
-/
import Derived.Test.YtjpkedhcbnklmaaCno
namespace Go.Pf
open Go Go.Pu
set_option linter.unusedVariables false
theorem law_FnExactConnsOf (x : ((Int × (List (Int × (Int × List Int)) × (List (List Int × Int) × List Int))) × List (Int × (Int × List (Int × Int))))) (h : InR (tP (tP tI (tP (tS 0 (tP tI (tP tI (tS 0 tI)))) (tP (tS 0 (tP (tS 0 tI) tI)) (tS 0 tI)))) (tS 0 (tP tI (tP tI (tS 0 (tP tI tI)))))) x) : laws_FnExactConnsOf x = some true := by
  obtain ⟨n, y⟩ := x
  obtain ⟨⟨_, ⟨h1, h2⟩, ⟨h3, h4⟩, ⟨h5, _⟩⟩, ⟨h6, h7⟩⟩ := h
  unfold laws_FnExactConnsOf
  try dsimp only
  rcases szNet_ok n (Nat.le_trans h1 (by decide)) (fun s hs => Nat.le_trans (h2 s hs).2.2.1 (by decide)) (Nat.le_trans h3 (by decide)) (fun l hl => Nat.le_trans (h4 l hl).1.1 (by decide)) (Nat.le_trans h5 (by decide)) 1048576 (by omega) (by omega) with e | ⟨hb, z, z0, z1, e⟩
  · rw [e]; rfl
  rw [e]
  simp only [Option.bind_some]
  rw [df (by omega), cond_false]
  rcases szBks_ok y (Nat.le_trans h6 (by decide)) (fun b hb => Nat.le_trans (h7 b hb).2.2.1 (by decide)) z z0 (by omega) with e2 | ⟨hbl, w, w0, w1, e2⟩
  · rw [e2]; rfl
  rw [e2]
  simp only [Option.bind_some]
  rw [df (by omega), cond_false]
  obtain ⟨c1, c2⟩ := connsP_ok n y
  have es := conns_spec n y hb hbl
  have ei := conns_impl n y hb hbl
  generalize connsP n y = cs at *
  have hok : CnsOk cs := ⟨by omega, fun c hc => by have := c2 c hc; unfold CnOk; omega⟩
  have hls : LensOk (lensC cs) := ⟨by unfold lensC; rw [List.length_map]; omega, fun m hm => by
    unfold lensC at hm
    obtain ⟨c, hc, rfl⟩ := List.mem_map.1 hm
    have := c2 c hc
    omega⟩
  obtain ⟨r, hr, hr0, hr1⟩ := markNet_ok n 1 (by omega) (by omega) hb
  obtain ⟨q, hq, hq0⟩ := markBks_le y r.1 hr0 (by omega) hbl
  have hk := kG_take (w := 3) (by omega) (by omega) hls 1 (lensC cs).length
  rw [List.take_length] at hk
  simp only [toNet_ok n hb, toBks_ok y hbl, Option.bind_some, es, ei, cond_false, eqNet_refl n hb, eqBks_refl y hbl, eqConnS_refl cs hok, Bool.not_true, hr, hq, df (show ¬ (q.1 < 0) by omega)]
  rw [markCns_eq cs 1 (by omega) (by omega) hls]
  simp only [Option.bind_some, heldCns_ok (lensC cs) 1 (by omega) (by omega) hls, df (show ¬ (kG 3 1 (lensC cs) < 0) by omega), cond_false, ne_eq, not_true_eq_false, decide_false]
end Go.Pf

