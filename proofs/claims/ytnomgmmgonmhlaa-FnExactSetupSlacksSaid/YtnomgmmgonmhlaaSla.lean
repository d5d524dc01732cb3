/-
  Own work. Bounds of delays; exceptions, plainly.
-/
import Derived.Test.YtnomgmmgonmhlaaDly
namespace Go.Pf
open Go Go.Pu
set_option linter.unusedVariables false

theorem dB_bound {D : List Int} {M : Int} (hM : 0 ≤ M ∧ M ≤ 1000000) (lng : Bool) (b : Int) (hb : -1 ≤ b ∧ b ≤ M) (l : List Arc) (h : ∀ a ∈ l, D.getD a.1.toNat 0 ≤ M ∧ 0 ≤ a.2.2 ∧ a.2.2 ≤ 100) (j : Nat) : -1 ≤ dB lng D b l j ∧ dB lng D b l j ≤ M + 100 := by
  induction j with
  | zero => show -1 ≤ b ∧ b ≤ M + 100; omega
  | succ j ih =>
    by_cases hj : j < l.length
    · rw [dB_succ _ _ _ _ _ hj]
      have ha := h _ (List.getElem_mem hj)
      unfold dS
      by_cases q1 : D.getD (l[j].1).toNat 0 < 0
      · rw [if_pos q1]; exact ih
      rw [if_neg q1, wrap_ok (z := D.getD (l[j].1).toNat 0 + l[j].2.2) (by omega)]
      split
      · omega
      · cases lng
        · simp only [cond_false]; split
          · omega
          · exact ih
        · simp only [cond_true]; split
          · omega
          · exact ih
    · have e : dB lng D b l (j + 1) = dB lng D b l j := by
        unfold dB; rw [List.take_of_length_le (by omega), List.take_of_length_le (by omega)]
      rw [e]; exact ih
theorem dD_bound {g : TG} (h : timP g = true) (src : Int) (lng : Bool) (n : Nat) : n ≤ 500 → ∀ i, i < n → -1 ≤ (dD g.2 src lng n).getD i 0 ∧ (dD g.2 src lng n).getD i 0 ≤ 100 * n := by
  induction n with
  | zero => intro _ i hi; omega
  | succ n ih =>
    intro hn i hi
    have ih := ih (by omega)
    show -1 ≤ (dD g.2 src lng n ++ [dB lng (dD g.2 src lng n) (if (n : Int) = src then 0 else -1) (into g.2 n) (into g.2 n).length]).getD i 0 ∧ (dD g.2 src lng n ++ [dB lng (dD g.2 src lng n) (if (n : Int) = src then 0 else -1) (into g.2 n) (into g.2 n).length]).getD i 0 ≤ _
    by_cases hin : i < n
    · rw [getD_app (by rw [dD_len]; exact hin)]
      have := ih i hin
      omega
    · have : i = n := by omega
      subst this
      have e : (dD g.2 src lng i ++ [dB lng (dD g.2 src lng i) (if (i : Int) = src then 0 else -1) (into g.2 i) (into g.2 i).length]).getD i 0 = dB lng (dD g.2 src lng i) (if (i : Int) = src then 0 else -1) (into g.2 i) (into g.2 i).length := by
        rw [List.getD, List.getElem?_append_right (by rw [dD_len]; omega), dD_len]; simp
      rw [e]
      have hb := dB_bound (D := dD g.2 src lng i) (M := 100 * (i : Int)) (by omega) lng (if (i : Int) = src then 0 else -1) (by split <;> omega) (into g.2 i) (fun a ha => by
        obtain ⟨m1, m2⟩ := into_mem ha
        have m3 := timP_arc h m1
        have := ih a.1.toNat (by omega)
        exact ⟨this.2, m3.2.2⟩) (into g.2 i).length
      omega

abbrev Exc := Int × (Int × Int)
def excP (x : Exc) : Bool := decide (0 ≤ x.1 ∧ 0 ≤ x.2.1 ∧ (0 ≤ x.2.2 ∧ x.2.2 ≤ 8))
def excsP (xs : List Exc) : Bool := decide (xs.length ≤ 50) && xs.all excP
theorem excs_impl (xs : List Exc) : impl_exceptionsOk xs = some (excsP xs) := by
  unfold impl_exceptionsOk excsP
  dsimp only
  by_cases h : xs.length ≤ 50
  rotate_left
  · rw [dt (by omega), cond_true, df h]; rfl
  rw [df (by omega), cond_false, dt h, Bool.true_and]
  refine Eq.trans (loop_all xs.length (fun k : Nat => (k : Int)) (fun k => if h : k < xs.length then excP xs[k] else true) false true (fun k hk hok => ?_) (fun k hk hok => ?_) ?_) ?_
  · rw [dif_pos hk] at hok
    obtain ⟨q1, q2, q3⟩ := of_decide_eq_true hok
    try dsimp only
    rw [dt (by omega), cond_true, gget_nat hk]
    simp only [Option.bind_some]
    rw [df (by omega), cond_false, df (by omega), cond_false, inR_impl, dt q3]
    simp only [Option.bind_some, Bool.not_true, cond_false]
    rw [wrap_ok (by omega)]; rfl
  · rw [dif_pos hk] at hok
    have q := of_decide_eq_false hok
    try dsimp only
    rw [dt (by omega), cond_true, gget_nat hk]
    simp only [Option.bind_some]
    by_cases q1 : (xs[k]).1 < 0
    · rw [dt q1]; rfl
    rw [df q1, cond_false]
    by_cases q2 : (xs[k]).2.1 < 0
    · rw [dt q2]; rfl
    rw [df q2, cond_false, inR_impl, df (fun q3 => q ⟨by omega, by omega, q3⟩)]; rfl
  · try dsimp only
    rw [df (by omega), cond_false]; rfl
  · rw [all_range_list xs excP _ (fun k hk => by rw [dif_pos hk])]
    cases xs.all excP <;> rfl
def validP (g : TG) (ps qs : List (Int × Int)) (xs : List Exc) : Bool := ptsP g ps && (ptsP g qs && excsP xs)
theorem valid_spec (g : TG) (ps qs : List (Int × Int)) (xs : List Exc) : spec_l36Valid (g, (ps, (qs, xs))) = some (validP g ps qs xs) := by
  unfold spec_l36Valid validP excsP
  dsimp only
  rw [pts_spec, pts_spec]
  simp only [Option.bind_some]
  cases ptsP g ps
  · rfl
  cases ptsP g qs
  · rfl
  simp only [Bool.not_true, cond_false, Bool.true_and]
  by_cases h : xs.length ≤ 50
  rotate_left
  · rw [dt (by omega), cond_true, df h]; rfl
  rw [df (by omega), cond_false, dt h, Bool.true_and]
  refine Eq.trans (loop_all xs.length (fun k : Nat => (k : Int)) (fun k => if h : k < xs.length then excP xs[k] else true) false true (fun k hk hok => ?_) (fun k hk hok => ?_) ?_) ?_
  · rw [dif_pos hk] at hok
    obtain ⟨q1, q2, q3⟩ := of_decide_eq_true hok
    try dsimp only
    rw [dt (by omega), cond_true, gget_nat hk]
    simp only [Option.bind_some]
    rw [df (by omega), cond_false, df (by omega), cond_false, inR_spec, dt q3]
    simp only [Option.bind_some, Bool.not_true, cond_false]
    rw [wrap_ok (by omega)]; rfl
  · rw [dif_pos hk] at hok
    have q := of_decide_eq_false hok
    try dsimp only
    rw [dt (by omega), cond_true, gget_nat hk]
    simp only [Option.bind_some]
    by_cases q1 : (xs[k]).1 < 0
    · rw [dt q1]; rfl
    rw [df q1, cond_false]
    by_cases q2 : (xs[k]).2.1 < 0
    · rw [dt q2]; rfl
    rw [df q2, cond_false, inR_spec, df (fun q3 => q ⟨by omega, by omega, q3⟩)]; rfl
  · try dsimp only
    rw [df (by omega), cond_false]; rfl
  · rw [all_range_list xs excP _ (fun k hk => by rw [dif_pos hk])]
    cases xs.all excP <;> rfl
/-- The cycles between a start and an end. -/
def cycP (xs : List Exc) (i j : Int) : Int := match (List.range xs.length).find? (fun k => decide ((xs.getD k (0, (0, 0))).1 = i ∧ (xs.getD k (0, (0, 0))).2.1 = j)) with
  | some k => (xs.getD k (0, (0, 0))).2.2
  | none => 1
theorem xs_at {xs : List Exc} {k : Nat} (h : k < xs.length) : xs[k] = xs.getD k (0, (0, 0)) := by rw [List.getD, List.getElem?_eq_getElem h]; rfl
theorem cyc_impl (xs : List Exc) (i j : Int) (hl : xs.length ≤ 50) : impl_cyclesOf (xs, (i, j)) = some (cycP xs i j) := by
  unfold impl_cyclesOf cycP
  dsimp only
  refine Eq.trans (loop_find xs.length (fun k : Nat => (k : Int)) (fun k => decide ((xs.getD k (0, (0, 0))).1 = i ∧ (xs.getD k (0, (0, 0))).2.1 = j)) (fun k => (xs.getD k (0, (0, 0))).2.2) 1 (fun k hk hok => ?_) (fun k hk hok => ?_) ?_) ?_
  · have q := of_decide_eq_false hok
    try dsimp only
    rw [dt (by omega), cond_true, gget_nat hk, xs_at hk, wrap_ok (by omega)]
    simp only [Option.bind_some]
    by_cases q1 : (xs.getD k (0, (0, 0))).1 = i
    · rw [dt q1, cond_true, df (fun q2 => q ⟨q1, q2⟩)]; rfl
    · rw [df q1]; rfl
  · have q := of_decide_eq_true hok
    try dsimp only
    rw [dt (by omega), cond_true, gget_nat hk, xs_at hk]
    simp only [Option.bind_some]
    rw [dt q.1, cond_true, dt q.2]; rfl
  · try dsimp only
    rw [df (by omega), cond_false]; rfl
  · rfl
theorem cyc_spec (xs : List Exc) (i j : Int) (hl : xs.length ≤ 50) : spec_l36Cycles (xs, (i, j)) = some (cycP xs i j) := by
  unfold spec_l36Cycles cycP
  dsimp only
  refine Eq.trans (loop_find xs.length (fun k : Nat => (k : Int)) (fun k => decide ((xs.getD k (0, (0, 0))).1 = i ∧ (xs.getD k (0, (0, 0))).2.1 = j)) (fun k => (xs.getD k (0, (0, 0))).2.2) 1 (fun k hk hok => ?_) (fun k hk hok => ?_) ?_) ?_
  · have q := of_decide_eq_false hok
    try dsimp only
    rw [dt (by omega), cond_true, gget_nat hk, xs_at hk, wrap_ok (by omega)]
    simp only [Option.bind_some]
    by_cases q1 : (xs.getD k (0, (0, 0))).1 = i
    · rw [dt q1, cond_true, df (fun q2 => q ⟨q1, q2⟩)]; rfl
    · rw [df q1]; rfl
  · have q := of_decide_eq_true hok
    try dsimp only
    rw [dt (by omega), cond_true, gget_nat hk, xs_at hk]
    simp only [Option.bind_some]
    rw [dt q.1, cond_true, dt q.2]; rfl
  · try dsimp only
    rw [df (by omega), cond_false]; rfl
  · rfl
end Go.Pf
