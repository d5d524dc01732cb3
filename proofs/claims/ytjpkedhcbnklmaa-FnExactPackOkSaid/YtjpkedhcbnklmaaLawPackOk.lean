/-
  Own work. The law, plainly: it says true.
-/
import Derived.Test.YtjpkedhcbnklmaaPko
namespace Go.Pf
open Go Go.Pu
set_option linter.unusedVariables false
theorem law_FnExactPackOk (x : ((Int × (List (Int × (Int × List Int)) × (List (List Int × Int) × List Int))) × List (Int × (Int × List (Int × Int))))) (h : InR (tP (tP tI (tP (tS 0 (tP tI (tP tI (tS 0 tI)))) (tP (tS 0 (tP (tS 0 tI) tI)) (tS 0 tI)))) (tS 0 (tP tI (tP tI (tS 0 (tP tI tI)))))) x) : laws_FnExactPackOk x = some true := by
  obtain ⟨n, y⟩ := x
  obtain ⟨⟨_, ⟨h1, h2⟩, ⟨h3, h4⟩, ⟨h5, _⟩⟩, ⟨h6, h7⟩⟩ := h
  unfold laws_FnExactPackOk
  try dsimp only
  rcases szNet_ok n (Nat.le_trans h1 (by decide)) (fun s hs => Nat.le_trans (h2 s hs).2.2.1 (by decide)) (Nat.le_trans h3 (by decide)) (fun l hl => Nat.le_trans (h4 l hl).1.1 (by decide)) (Nat.le_trans h5 (by decide)) 1048576 (by omega) (by omega) with e | ⟨hb, z, z0, z1, e⟩
  · rw [e]; rfl
  rw [e]
  simp only [Option.bind_some]
  rw [df (by omega), cond_false]
  rcases szBks_ok y (Nat.le_trans h6 (by decide)) (fun b hb => Nat.le_trans (h7 b hb).2.2.1 (by decide)) z z0 (by omega) with e2 | ⟨hbl, w, w0, w1, e2⟩
  · rw [e2]; rfl
  rw [e2]
  simp only [Option.bind_some]
  rw [df (by omega), cond_false]
  simp only [toNet_ok n hb, toBks_ok y hbl, Option.bind_some, pack_spec n y hb hbl, pack_impl n y hb hbl, beq_self_eq_true, Bool.true_xor, cond_false, eqNet_refl n hb, eqBks_refl y hbl, Bool.not_true]
end Go.Pf

