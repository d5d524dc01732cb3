/-
  Own work. The law, plainly: it says true.
-/
import Derived.Test.YtlfmlhoajobafaaAvg
namespace Go.Pf
open Go Go.Pu
set_option linter.unusedVariables false
def marksP (k : Int) (n : Nat) : List Pin := (List.range n).map fun (j : Nat) => (k + 2 * (j : Int), k + 2 * (j : Int) + 1)
theorem marksP_len (k : Int) (n : Nat) : (marksP k n).length = n := by simp [marksP]
theorem marksP_succ (k : Int) (n : Nat) : marksP k (n + 1) = marksP k n ++ [(k + 2 * (n : Int), k + 2 * (n : Int) + 1)] := by
  unfold marksP; rw [List.range_succ, List.map_append]; rfl
theorem marksP_get (k : Int) (n : Nat) {j : Nat} (h : j < n) : gget ((0, 0) : Pin) (marksP k n) (j : Int) = some (k + 2 * (j : Int), k + 2 * (j : Int) + 1) := by
  rw [gget_nat (by rw [marksP_len]; exact h)]
  simp [marksP]
theorem markPinS_eq (xs : List Pin) (k : Int) (hk : 0 ≤ k) (hk2 : k ≤ 1099511627776) (h : xs.length ≤ 1048576) : laws_markPinS (xs, k) = some (k + 2 * (xs.length : Int), marksP k xs.length) := by
  unfold laws_markPinS
  have e0 : (k, ((0 : Int), xs)) = (fun i : Nat => (k + 2 * (i : Int), ((i : Int), marksP k i ++ xs.drop i))) 0 := by simp [marksP]
  try dsimp only
  rw [e0]
  refine loop_upto xs.length (fun i => (k + 2 * (i : Int), ((i : Int), marksP k i ++ xs.drop i))) (fun i hi => ?_) ?_
  · have hml := marksP_len k i
    have hl : (marksP k i ++ xs.drop i).length = xs.length := by rw [List.length_append, hml, List.length_drop]; omega
    have hd : xs.drop i = xs[i] :: xs.drop (i + 1) := List.drop_eq_getElem_cons hi
    have gs : ∀ (a : List Pin) (x : Pin), i < a.length → gget ((0, 0) : Pin) (a.set i x) (i : Int) = some x := fun a x ha => by
      rw [gget_nat (by rw [List.length_set]; exact ha), List.getElem_set_self]
    try dsimp only
    rw [dt (show (i : Int) < ((marksP k i ++ xs.drop i).length : Int) by rw [hl]; omega), cond_true, gin_nat (show i < _ by rw [hl]; exact hi), gget_nat (show i < _ by rw [hl]; exact hi)]
    simp only [Option.bind_some]
    rw [gset_nat, List.length_set, gin_nat (show i < _ by rw [hl]; exact hi), gs _ _ (by rw [hl]; exact hi)]
    simp only [Option.bind_some]
    rw [gset_nat, List.set_set, wrap_ok (z := k + 2 * (i : Int) + 1) (by omega), wrap_ok (z := k + 2 * (i : Int) + 1 + 1) (by omega), wrap_ok (z := (i : Int) + 1) (by omega)]
    have e1 : (marksP k i ++ xs.drop i).set i (k + 2 * (i : Int), k + 2 * (i : Int) + 1) = marksP k (i + 1) ++ xs.drop (i + 1) := by
      rw [List.set_append_right _ _ (by omega), hml, Nat.sub_self, hd, List.set_cons_zero, marksP_succ]; simp
    rw [e1]
    have e2 : k + 2 * (i : Int) + 1 + 1 = k + 2 * ((i + 1 : Nat) : Int) := by omega
    rw [e2]; rfl
  · have hml := marksP_len k xs.length
    have hl : (marksP k xs.length ++ xs.drop xs.length).length = xs.length := by rw [List.length_append, hml, List.length_drop]; omega
    try dsimp only
    rw [hl, df (by omega), cond_false, List.drop_of_length_le (Nat.le_refl _), List.append_nil]; rfl
theorem heldPinS_ok (k : Int) (n : Nat) (hk : 0 ≤ k) (hk2 : k ≤ 1099511627776) (h : n ≤ 1048576) : laws_heldPinS (marksP k n, k) = some (k + 2 * (n : Int)) := by
  unfold laws_heldPinS
  have e0 : (k, (0 : Int)) = (fun i : Nat => (k + 2 * (i : Int), (i : Int))) 0 := by simp
  have hml := marksP_len k n
  try dsimp only
  rw [e0]
  refine loop_upto n (fun i => (k + 2 * (i : Int), (i : Int))) (fun i hi => ?_) ?_
  · try dsimp only
    rw [hml, dt (show (i : Int) < (n : Int) by omega), cond_true, marksP_get k n hi]
    simp only [Option.bind_some]
    rw [df (by simp), cond_false, wrap_ok (z := k + 2 * (i : Int) + 1) (by omega), df (by simp), cond_false, wrap_ok (z := k + 2 * (i : Int) + 1 + 1) (by omega), wrap_ok (z := (i : Int) + 1) (by omega)]
    have e2 : k + 2 * (i : Int) + 1 + 1 = k + 2 * ((i + 1 : Nat) : Int) := by omega
    rw [e2]; rfl
  · try dsimp only
    rw [hml, df (by omega), cond_false]; rfl
theorem law_FnExactAverages (x : ((Int × (Int × (Int × Int))) × (List Int × (List (Int × ((Int × Int) × List (Int × Int))) × Int)))) (h : InR (tP (tP tI (tP tI (tP tI tI))) (tP (tS 0 tI) (tP (tS 0 (tP tI (tP (tP tI tI) (tS 0 (tP tI tI))))) tI))) x) : laws_FnExactAverages x = some true := by
  obtain ⟨d, ps, cs, r⟩ := x
  obtain ⟨_, ⟨_, hp⟩, ⟨hc, hcs⟩, _⟩ := h
  have hp : PsR ps := fun p hm => (hp p hm).2
  unfold laws_FnExactAverages laws_toDevice
  simp only
  by_cases h1 : 1048576 < (ps.length : Int)
  · rw [dt h1]; rfl
  rw [df h1, cond_false]
  rcases szCnsB_ok cs (Nat.le_trans hc (by decide)) (fun c hm => Nat.le_trans (hcs c hm).2.2.1 (by decide)) with e | ⟨hb, z, z0, z1, e⟩
  · rw [e]; rfl
  have hok := hb.ok
  rw [e]
  simp only [Option.bind_some]
  rw [df (by omega), cond_false]
  obtain ⟨q, hq, hq0⟩ := markCns_ok cs (1 + (ps.length : Int)) (by omega) (by omega) hb
  obtain ⟨o, ⟨hl, _⟩, hs, hi⟩ := avg_ok d ps cs r hp (by omega) hok
  have hl2 : o.length ≤ 1048576 := by omega
  simp only [toIntS_ok ps (by omega), toConnS_ok cs hok, Option.bind_some, hs, hi, cond_false, eqIntS_ok ps ps (by omega), eqPinS_refl o hl2, eqConnS_refl cs hok, decide_true, Bool.not_true]
  rw [markIntS_ok ps 1 (by omega) (by omega) (by omega)]
  simp only [Option.bind_some, hq, df (show ¬ (q.1 < 0) by omega), cond_false]
  rw [markPinS_eq o 1 (by omega) (by omega) hl2]
  simp only [Option.bind_some, heldPinS_ok 1 o.length (by omega) (by omega) hl2, df (show ¬ (1 + 2 * (o.length : Int) < 0) by omega), cond_false, ne_eq, not_true_eq_false, decide_false]
end Go.Pf
