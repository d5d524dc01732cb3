/-
  Own work. The law, plainly: it says true.
-/
import Derived.Test.YtjpkedhcbnklmaaPcx
namespace Go.Pf
open Go Go.Pu
set_option linter.unusedVariables false
theorem law_FnExactPack (x : (Int × (List (Int × (Int × List Int)) × (List (List Int × Int) × List Int)))) (h : InR (tP tI (tP (tS 0 (tP tI (tP tI (tS 0 tI)))) (tP (tS 0 (tP (tS 0 tI) tI)) (tS 0 tI)))) x) : laws_FnExactPack x = some true := by
  obtain ⟨_, ⟨h1, h2⟩, ⟨h3, h4⟩, ⟨h5, _⟩⟩ := h
  unfold laws_FnExactPack
  try dsimp only
  rcases szNet_ok x (Nat.le_trans h1 (by decide)) (fun s hs => Nat.le_trans (h2 s hs).2.2.1 (by decide)) (Nat.le_trans h3 (by decide)) (fun l hl => Nat.le_trans (h4 l hl).1.1 (by decide)) (Nat.le_trans h5 (by decide)) 1048576 (by omega) (by omega) with e | ⟨hb, z, z0, z1, e⟩
  · rw [e]; rfl
  rw [e]
  simp only [Option.bind_some]
  rw [df (by omega), cond_false]
  obtain ⟨o, ei, es, o1, o2⟩ := pack_run x hb
  have hbl : BksB o.1 := ⟨by omega, fun b hm => by have := o2 b hm; unfold BkB; omega⟩
  have hls : LensOk (lensB o.1) := ⟨by unfold lensB; rw [List.length_map]; omega, fun m hm => by
    unfold lensB at hm
    obtain ⟨c, hc, rfl⟩ := List.mem_map.1 hm
    have := o2 c hc
    omega⟩
  obtain ⟨r, hr, hr0, hr1⟩ := markNet_ok x 1 (by omega) (by omega) hb
  have hk := kG_take (w := 2) (by omega) (by omega) hls 1 (lensB o.1).length
  rw [List.take_length] at hk
  simp only [toNet_ok x hb, Option.bind_some, es, ei, cond_false, eqNet_refl x hb, eqBks_refl o.1 hbl, beq_self_eq_true, Bool.true_xor, Bool.not_true, hr, df (show ¬ (r.1 < 0) by omega)]
  rw [markBks_eq o.1 1 (by omega) (by omega) hls]
  simp only [Option.bind_some, heldBks_ok (lensB o.1) 1 (by omega) (by omega) hls, df (show ¬ (kG 2 1 (lensB o.1) < 0) by omega), cond_false, ne_eq, not_true_eq_false, decide_false]
end Go.Pf

