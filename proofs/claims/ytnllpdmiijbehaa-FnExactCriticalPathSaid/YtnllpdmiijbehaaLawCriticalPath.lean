/-
  Own work. The law of critical paths, plainly: it says true.
-/
import Derived.Test.YtnllpdmiijbehaaCrp
namespace Go.Pf
open Go Go.Pu
set_option linter.unusedVariables false
def chL (g : TG) (D : List Int) (t : Int) (k : Nat) : List Int := (List.range (k + 1)).map (chn g D t)
theorem chL_len (g : TG) (D : List Int) (t : Int) (k : Nat) : (chL g D t k).length = k + 1 := by simp [chL]
theorem chL_succ (g : TG) (D : List Int) (t : Int) (k : Nat) : chL g D t (k + 1) = chL g D t k ++ [chn g D t (k + 1)] := by
  unfold chL; rw [List.range_succ, List.map_append]; rfl
theorem chL_last (g : TG) (D : List Int) (t : Int) (k : Nat) : gget 0 (chL g D t k) (k : Int) = some (chn g D t k) := by
  rw [gget_nat (by rw [chL_len]; omega)]
  simp [chL]
theorem rev_loop (L : List Int) (n : Nat) (hL : L.length = n + 1) (hn : n ≤ 1000) : Pu.loop (fun (v18 : (Int × List Int)) =>
        bif decide (0 ≤ v18.1) then (
          (gin (L).length v18.1).bind fun _ =>
          (gget 0 L v18.1).bind fun v21 =>
          (gapp 8 v18.2 [v21]).bind fun v23 =>
          some (.inl (wrap .i64 (v18.1 - 1), v23))) else
        Option.map Sum.inr (
          some v18.2)) ((n : Int), ([] : List Int)) = some L.reverse := by
  have e0 : ((n : Int), ([] : List Int)) = (fun j : Nat => ((n : Int) - (j : Int), L.reverse.take j)) 0 := by simp
  rw [e0]
  refine loop_upto (n + 1) (fun j => ((n : Int) - (j : Int), L.reverse.take j)) (fun j hj => ?_) ?_
  · have hjr : j < L.reverse.length := by rw [List.length_reverse]; omega
    obtain ⟨m, hm⟩ : ∃ m : Nat, (n : Int) - (j : Int) = (m : Int) := ⟨n - j, by omega⟩
    have hmL : m < L.length := by omega
    dsimp only
    rw [hm, dt (by omega), cond_true, gin_nat hmL, gget_nat hmL, take_succ' _ j hjr]
    simp only [Option.bind_some]
    rw [gapp_some (by rw [List.length_take, List.length_reverse]; simp; omega) (by rw [List.length_take, List.length_reverse]; simp; omega), wrap_ok (by omega)]
    simp only [Option.bind_some]
    have e1 : L.reverse[j] = L[m] := by
      rw [List.getElem_reverse]
      congr 1
      omega
    rw [e1]
    congr 3
    omega
  · dsimp only
    rw [df (by omega), cond_false, List.take_of_length_le (by rw [List.length_reverse]; omega)]; rfl
theorem crit (g : TG) (s t : Int) : ∃ o : List Int, o.length ≤ 1000 ∧ spec_CriticalPath (g, (s, t)) = some o ∧ impl_CriticalPath (g, (s, t)) = some o := by
  unfold spec_CriticalPath impl_CriticalPath
  dsimp only
  rw [node_spec, node_spec, tim_impl]
  simp only [Option.bind_some]
  by_cases h : timP g = true
  rotate_left
  · rw [df (show ¬ (timP g = true ∧ 0 ≤ s ∧ s < g.1) from fun e => h e.1)]
    rw [Bool.not_eq_true] at h
    rw [h]
    exact ⟨[], by simp, rfl, rfl⟩
  obtain ⟨hn, hl⟩ := timP_len h
  rw [h, wrap_ok (z := g.1 - 1) (by omega), inR_impl, inR_impl]
  simp only [Option.bind_some, Bool.not_true, cond_false, true_and]
  by_cases hs : 0 ≤ s ∧ s < g.1
  rotate_left
  · rw [df hs, df (show ¬ (0 ≤ s ∧ s ≤ g.1 - 1) by omega)]
    exact ⟨[], by simp, rfl, rfl⟩
  by_cases ht : 0 ≤ t ∧ t < g.1
  rotate_left
  · rw [df ht, df (show ¬ (0 ≤ t ∧ t ≤ g.1 - 1) by omega), dt hs, dt (show (0 ≤ s ∧ s ≤ g.1 - 1) by omega)]
    exact ⟨[], by simp, rfl, rfl⟩
  rw [dt hs, dt ht, dt (show (0 ≤ s ∧ s ≤ g.1 - 1) by omega), dt (show (0 ≤ t ∧ t ≤ g.1 - 1) by omega), delays_spec g h, arcs_impl g h]
  simp only [Option.bind_some, Bool.not_true, Bool.not_false, cond_false]
  rw [delays_impl g h]
  simp only [Option.bind_some]
  have hD := dD_len g.2 s true g.1.toNat
  rw [hD, gin_some ht.1 (by omega), gget_getD ht.1 (by omega)]
  simp only [Option.bind_some]
  generalize hDD : dD g.2 s true g.1.toNat = D at *
  by_cases h0 : D.getD t.toNat 0 < 0
  · rw [dt h0]
    exact ⟨[], by simp, rfl, rfl⟩
  rw [df h0, cond_false, cond_false]
  obtain ⟨n, n1, n2, n3⟩ := chn_ok h s (t.toNat + 1) t ht.1 (by omega) ht.2 (by rw [hDD]; omega)
  rw [hDD] at n2 n3
  have hn500 : n ≤ 500 := by omega
  refine ⟨(chL g D t n).reverse, by rw [List.length_reverse, chL_len]; omega, ?_, ?_⟩
  · refine loop_upto n (fun k => chL g D t k) (fun k hk => ?_) ?_
    · obtain ⟨c1, ⟨c2, c3⟩, c4⟩ := n3 k hk
      have hlen := chL_len g D t k
      try dsimp only
      rw [hlen, wrap_ok (z := ((k + 1 : Nat) : Int) - 1) (by omega), show ((k + 1 : Nat) : Int) - 1 = (k : Int) from by omega, gin_nat (by omega), chL_last]
      simp only [Option.bind_some]
      rw [dt c1, cond_true]
      obtain ⟨i, hi⟩ : ∃ i : Nat, chn g D t k = (i : Int) := ⟨(chn g D t k).toNat, by omega⟩
      have hc : chn g D t (k + 1) = prv g D (i : Int) := by show prv g D (chn g D t k) = _; rw [hi]
      rw [hi]
      have key := prv_spec h D (by rw [hD]) i (by omega) (by rw [← hc]; exact c4) (fun m => (gapp 8 (chL g D t k) [m]).bind fun v24 => (some (.inl v24) : Option (List Int ⊕ List Int))) (o := .inl (chL g D t (k + 1))) (by
        try dsimp only
        rw [gapp_some (by rw [hlen]; simp; omega) (by rw [hlen]; simp; omega), ← hc, ← chL_succ]; rfl)
      rw [hD] at key
      exact key
    · have hlen := chL_len g D t n
      try dsimp only
      rw [hlen, wrap_ok (z := ((n + 1 : Nat) : Int) - 1) (by omega), show ((n + 1 : Nat) : Int) - 1 = (n : Int) from by omega, gin_nat (by omega), chL_last]
      simp only [Option.bind_some]
      rw [df (by simp [n2]), cond_false]
      have key := rev_loop (chL g D t n) n hlen (by omega)
      rw [hlen] at key
      exact congrArg (Option.map Sum.inr) key
  · have e0 : (t, [t]) = (fun k : Nat => (chn g D t k, (chL g D t k).reverse)) 0 := rfl
    rw [e0]
    refine loop_upto n (fun k => (chn g D t k, (chL g D t k).reverse)) (fun k hk => ?_) ?_
    · obtain ⟨c1, ⟨c2, c3⟩, c4⟩ := n3 k hk
      have hlen := chL_len g D t k
      dsimp only
      rw [dt c1, cond_true]
      obtain ⟨i, hi⟩ : ∃ i : Nat, chn g D t k = (i : Int) := ⟨(chn g D t k).toNat, by omega⟩
      have hc : chn g D t (k + 1) = prv g D (i : Int) := by show prv g D (chn g D t k) = _; rw [hi]
      rw [hi, tab_len, gin_nat (by omega), tab_get _ (by omega)]
      simp only [Option.bind_some]
      have key := prv_impl h D (by rw [hD]) i (by omega) (fun m => (gapp 8 [m] (chL g D t k).reverse).bind fun v23 => (some (.inl (m, v23)) : Option ((Int × List Int) ⊕ List Int))) (o := .inl (chn g D t (k + 1), (chL g D t (k + 1)).reverse)) (by
        try dsimp only
        rw [gapp_some (by rw [List.length_reverse, hlen]; simp; omega) (by rw [List.length_reverse, hlen]; simp; omega), ← hc, chL_succ, List.reverse_append]; rfl)
      rw [hD, gin_nat (show i < g.1.toNat by omega)] at key
      simp only [Option.bind_some] at key
      exact key
    · dsimp only
      rw [df (by simp [n2]), cond_false]; rfl
theorem law_FnExactCriticalPath (x : ((Int × List (Int × (Int × Int))) × (Int × Int))) (h : InR (tP (tP tI (tS 0 (tP tI (tP tI tI)))) (tP tI tI)) x) : laws_FnExactCriticalPath x = some true := by
  obtain ⟨g, s, t⟩ := x
  obtain ⟨⟨_, ⟨hg, _⟩⟩, _⟩ := h
  unfold laws_FnExactCriticalPath
  simp only
  rcases szTG_ok g (Nat.le_trans hg (by decide)) 1048576 (by omega) (by omega) with e | ⟨hg, z, z0, z1, e⟩
  · rw [e]; rfl
  rw [e]
  simp only [Option.bind_some]
  rw [df (by omega), cond_false]
  obtain ⟨o, ho, es, ei⟩ := crit g s t
  obtain ⟨r, hr, hr0, _⟩ := markTG_ok g 1 (by omega) (by omega) hg
  simp only [Option.bind_some, toTG_ok g hg, es, ei, cond_false, eqTG_refl g hg, eqIntS_ok o o (by omega), decide_true, Bool.not_true, hr, df (show ¬ (r.1 < 0) by omega)]
  rw [markIntS_ok o 1 (by omega) (by omega) (by omega)]
  simp only [Option.bind_some, heldIntS_ok 1 o.length (by omega) (by omega) (by omega), df (show ¬ (1 + (o.length : Int) < 0) by omega), cond_false, ne_eq, not_true_eq_false, decide_false]
end Go.Pf
