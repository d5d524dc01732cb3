/-
  Own work. The law, plainly: it says true.
-/
import Derived.Test.YtnomgmmgonmhlaaGrw
namespace Go.Pf
open Go Go.Pu
theorem markRoute_eq (a b : List Int) (ha : a.length ≤ 1048576) (hb : b.length ≤ 1048576) : laws_markRoute ((a, b), 1) = some (1 + (a.length : Int) + (b.length : Int), (marks 1 a.length, marks (1 + (a.length : Int)) b.length)) := by
  unfold laws_markRoute
  simp only [markIntS_ok a 1 (by omega) (by omega) ha, Option.bind_some]
  rw [markIntS_ok b (1 + (a.length : Int)) (by omega) (by omega) hb]
  rfl
theorem heldRoute_eq (n m : Nat) (hn : n ≤ 1048576) (hm : m ≤ 1048576) : laws_heldRoute ((marks 1 n, marks (1 + (n : Int)) m), 1) = some (1 + (n : Int) + (m : Int)) := by
  unfold laws_heldRoute
  simp only [heldIntS_ok 1 n (by omega) (by omega) hn, Option.bind_some, df (show ¬ (1 + (n : Int) < 0) by omega), cond_false]
  rw [heldIntS_ok (1 + (n : Int)) m (by omega) (by omega) hm]
  simp only [Option.bind_some, df (show ¬ (1 + (n : Int) + (m : Int) < 0) by omega), cond_false]
theorem law_FnExactGrowRoute (x : ((Int × (Int × (Int × Int))) × (List Int × (Int × List Int)))) (h : InR (tP (tP tI (tP tI (tP tI tI))) (tP (tS 0 tI) (tP tI (tS 0 tI)))) x) : laws_FnExactGrowRoute x = some true := by
  obtain ⟨d, a, s, b⟩ := x
  unfold laws_FnExactGrowRoute laws_toDevice
  simp only
  by_cases h1 : 1048576 < (a.length : Int)
  · rw [dt h1]; rfl
  rw [df h1, cond_false]
  by_cases h2 : 1048576 < (b.length : Int)
  · rw [dt h2]; rfl
  rw [df h2, cond_false]
  obtain ⟨⟨⟨p, q⟩, f⟩, ⟨hp, hq⟩, hs, hi⟩ := grow_ok d a s b (by omega) (by omega)
  simp only at hp hq
  have hp : p.length ≤ 1048576 := by omega
  have hq : q.length ≤ 1048576 := by omega
  simp only [toIntS_ok a (by omega), toIntS_ok b (by omega), Option.bind_some, hs, hi, cond_false, eqIntS_ok a a (by omega), eqIntS_ok b b (by omega), eqRoute_ok p q p q hp hq, and_self, decide_true, Bool.not_true, beq_self_eq_true, Bool.true_xor, markRoute_eq p q hp hq, heldRoute_eq p.length q.length hp hq]
  rw [markIntS_ok a 1 (by omega) (by omega) (by omega)]
  simp only [Option.bind_some]
  rw [markIntS_ok b (1 + (a.length : Int)) (by omega) (by omega) (by omega)]
  simp only [Option.bind_some]
  rw [df (show ¬ (1 + (a.length : Int) + (b.length : Int) < 0) by omega), df (show ¬ (1 + (p.length : Int) + (q.length : Int) < 0) by omega)]
  simp only [cond_false, ne_eq, not_true_eq_false, decide_false]
end Go.Pf
