/-
  Own work. Cheapest distances: the reference's passes and the program's queue both find them.
-/
import Derived.Test.YtjpkedhcbnklmaaDsa
namespace Go.Pf
open Go Go.Pu
set_option linter.unusedVariables false

theorem gAt_get {G : List (List Int)} {v : Nat} (h : v < G.length) : gget ([] : List Int) G (v : Int) = some (gAt G v) := by
  rw [gget_nat h]; unfold gAt
  rw [List.getD, List.getElem?_eq_getElem h]; rfl
theorem relax_keep {D : List Int} {ss : List Int} {v : Nat} {x : Int} (h : St0 ss D) (hv : v < D.length) (hx : 0 ≤ x) (hlt : nsAt D v < 0 ∨ x < nsAt D v) : St0 ss (D.set v x) := by
  intro s hs
  rw [nsAt_set _ _ hv]
  have := h s hs
  split
  · rename_i e; rw [e] at this; omega
  · exact this
theorem dist_spec {N : Nat} {G : List (List Int)} {cs ss : List Int} (hG : GrOk N G) (hc : CsOk N cs) (hs : ∀ s ∈ ss, 0 ≤ s ∧ s < (N : Int)) (hsl : ss.length ≤ 1048576) : ∃ D, spec_l33Distances (G, (cs, ss)) = some D ∧ IsDist N G cs ss D := by
  have hN := hG.2.1
  have hGl := hG.1
  unfold spec_l33Distances
  refine loop_uptoE N (fun k => ((k : Int), List.replicate k (-1))) _ (fun k hk => ?_) ?_
  · try dsimp only
    rw [dt (show (k : Int) < (G.length : Int) by omega), cond_true, gapp_ok (by simp; omega)]
    simp only [Option.bind_some]
    rw [wrap_ok (by omega), ← List.replicate_succ']; rfl
  try dsimp only
  rw [df (show ¬ (N : Int) < (G.length : Int) by omega), cond_false]
  refine mapE ?_
  refine loop_spec (fun s : Int × List Int => (0 ≤ s.1 ∧ s.1 ≤ ss.length) ∧ DInv N G cs ss s.2 ∧ ∀ j : Nat, (j : Int) < s.1 → nsAt s.2 (nsAt ss j).toNat = 0) _ (fun s => (ss.length - s.1).toNat) (fun s hI => ?_) (0, List.replicate N (-1)) ⟨⟨by simp, by simp⟩, dInit N G cs ss, fun j hj => by simp only at hj; omega⟩
  obtain ⟨i, D⟩ := s
  obtain ⟨⟨i0, i1⟩, hD, hz⟩ := hI
  simp only at i0 i1 hD hz
  have hDl := hD.1
  try dsimp only
  by_cases hi : i < (ss.length : Int)
  · left
    obtain ⟨n, rfl⟩ : ∃ n : Nat, i = (n : Int) := ⟨i.toNat, by omega⟩
    have hn : n < ss.length := by omega
    have hmem : nsAt ss n ∈ ss := by rw [← ns_at hn]; exact List.getElem_mem hn
    have hsn := hs _ hmem
    obtain ⟨v, hv⟩ : ∃ v : Nat, nsAt ss n = (v : Int) := ⟨(nsAt ss n).toNat, by omega⟩
    rw [dt hi, cond_true, nsAt_get hn]
    simp only [Option.bind_some]
    rw [hv, gin_nat (by omega), gget_nat (show v < D.length by omega)]
    simp only [Option.bind_some]
    rw [gset_nat, wrap_ok (z := (n : Int) + 1) (by omega)]
    refine ⟨_, rfl, ⟨⟨by simp only; omega, by simp only; omega⟩, (setStart hG hD (by omega) (by rw [← hv]; exact hmem)).1, fun j hj => ?_⟩, by simp only; omega⟩
    simp only at hj ⊢
    rw [nsAt_set _ _ (by omega)]
    split
    · rfl
    · rename_i hne
      by_cases e : j = n
      · subst e; rw [hv] at hne; exact absurd (Int.toNat_natCast v) hne
      · exact hz j (by omega)
  · right
    rw [df hi, cond_false]
    refine mapE ?_
    have h0 : St0 ss D := by
      intro s hsm
      obtain ⟨k, hk, e⟩ := nsAt_mem hsm
      rw [← e]; exact hz k (by omega)
    clear hz
    refine loop_spec (fun s : Bool × List Int => DInv N G cs ss s.2 ∧ St0 ss s.2 ∧ (s.1 = false → ∀ u v : Nat, u < N → v < N → (u : Int) ∈ gAt G v → 0 ≤ nsAt s.2 u → Sat cs s.2 u v)) _ (fun s => 2 * pot s.2 + (if s.1 = true then 1 else 0)) (fun s hI => ?_) (true, D) ⟨hD, h0, fun e => by simp at e⟩
    clear hD h0 hDl D
    obtain ⟨fl, D⟩ := s
    obtain ⟨hD, h0, hsat⟩ := hI
    simp only at hD h0 hsat
    try dsimp only
    cases fl with
    | false =>
      right
      exact ⟨D, rfl, hD, h0, hsat rfl⟩
    | true =>
      left
      rw [cond_true]
      clear hsat
      refine stepE (A := fun s' : Bool × List Int => (DInv N G cs ss s'.2 ∧ St0 ss s'.2 ∧ (s'.1 = false → ∀ u v : Nat, u < N → v < N → (u : Int) ∈ gAt G v → 0 ≤ nsAt s'.2 u → Sat cs s'.2 u v)) ∧ 2 * pot s'.2 + (if s'.1 = true then 1 else 0) < 2 * pot D + (if true = true then 1 else 0)) ?_
      refine loop_spec (fun s : Bool × (Int × List Int) => (0 ≤ s.2.1 ∧ s.2.1 ≤ (N : Int)) ∧ DInv N G cs ss s.2.2 ∧ St0 ss s.2.2 ∧ (s.1 = true → pot s.2.2 < pot D) ∧ (s.1 = false → s.2.2 = D ∧ ∀ u v : Nat, u < N → (v : Int) < s.2.1 → (u : Int) ∈ gAt G v → 0 ≤ nsAt D u → Sat cs D u v)) _ (fun s => (N - s.2.1).toNat) (fun s hI => ?_) (false, (0, D)) ⟨⟨by simp, by simp⟩, hD, h0, fun e => by simp at e, fun _ => ⟨rfl, fun u v hu hv => by simp only at hv; omega⟩⟩
      obtain ⟨fl, i, E⟩ := s
      obtain ⟨⟨i0, i1⟩, hE, hE0, ht, hf⟩ := hI
      simp only at i0 i1 hE hE0 ht hf
      try dsimp only
      by_cases hi : i < (G.length : Int)
      rotate_left
      · right
        rw [df hi, cond_false]
        refine ⟨_, rfl, _, rfl, ⟨hE, hE0, fun e => ?_⟩, ?_⟩
        · obtain ⟨e1, e2⟩ := hf e
          intro u v hu hv hm g0
          simp only at *
          rw [e1] at g0 ⊢
          exact e2 u v hu (by omega) hm g0
        · cases fl with
          | true => have := ht rfl; simp only; omega
          | false => have := (hf rfl).1; simp only; rw [this]; simp
      · left
        obtain ⟨v, rfl⟩ : ∃ v : Nat, i = (v : Int) := ⟨i.toNat, by omega⟩
        have hv : v < N := by omega
        rw [dt hi, cond_true]
        refine stepE (A := fun s' : Bool × (Int × List Int) => ((0 ≤ s'.2.1 ∧ s'.2.1 ≤ (N : Int)) ∧ DInv N G cs ss s'.2.2 ∧ St0 ss s'.2.2 ∧ (s'.1 = true → pot s'.2.2 < pot D) ∧ (s'.1 = false → s'.2.2 = D ∧ ∀ u v : Nat, u < N → (v : Int) < s'.2.1 → (u : Int) ∈ gAt G v → 0 ≤ nsAt D u → Sat cs D u v)) ∧ (N - s'.2.1).toNat < (N - (v : Int)).toNat) ?_
        have hgv := hG.2.2 v hv
        refine loop_spec (fun s : Bool × (Int × List Int) => (0 ≤ s.2.1 ∧ s.2.1 ≤ ((gAt G v).length : Int)) ∧ DInv N G cs ss s.2.2 ∧ St0 ss s.2.2 ∧ (s.1 = true → pot s.2.2 < pot D) ∧ (s.1 = false → s.2.2 = D ∧ (∀ u w : Nat, u < N → (w : Int) < (v : Int) → (u : Int) ∈ gAt G w → 0 ≤ nsAt D u → Sat cs D u w) ∧ ∀ j : Nat, (j : Int) < s.2.1 → 0 ≤ nsAt D (nsAt (gAt G v) j).toNat → Sat cs D (nsAt (gAt G v) j).toNat v)) _ (fun s => ((gAt G v).length - s.2.1).toNat) (fun s hI => ?_) (fl, (0, E)) ⟨⟨by simp, by simp⟩, hE, hE0, ht, fun e => ⟨(hf e).1, (hf e).2, fun j hj => by simp only at hj; omega⟩⟩
        clear ht hf hE hE0
        clear E fl
        obtain ⟨fl, j, E⟩ := s
        obtain ⟨⟨j0, j1⟩, hE, hE0, ht, hf⟩ := hI
        simp only at j0 j1 hE hE0 ht hf
        have hEl := hE.1
        try dsimp only
        rw [gAt_get (by omega)]
        simp only [Option.bind_some]
        by_cases hj : j < ((gAt G v).length : Int)
        rotate_left
        · right
          rw [df hj, cond_false, wrap_ok (z := (v : Int) + 1) (by omega)]
          refine ⟨_, rfl, _, rfl, ⟨⟨by simp only; omega, by simp only; omega⟩, hE, hE0, ht, fun e => ?_⟩, by simp only; omega⟩
          obtain ⟨e1, e2, e3⟩ := hf e
          refine ⟨e1, fun u w hu hw hm g0 => ?_⟩
          simp only at hw
          by_cases q : w = v
          · subst q
            obtain ⟨k, hk, ek⟩ := nsAt_mem hm
            have := e3 k (by omega)
            rw [ek, Int.toNat_natCast] at this
            exact this g0
          · exact e2 u w hu (by omega) hm g0
        · left
          obtain ⟨n, rfl⟩ : ∃ n : Nat, j = (n : Int) := ⟨j.toNat, by omega⟩
          have hn : n < (gAt G v).length := by omega
          have hmem : nsAt (gAt G v) n ∈ gAt G v := by rw [← ns_at hn]; exact List.getElem_mem hn
          have hun := hgv.2 _ hmem
          obtain ⟨u, hu⟩ : ∃ u : Nat, nsAt (gAt G v) n = (u : Int) := ⟨(nsAt (gAt G v) n).toNat, by omega⟩
          rw [hu] at hmem
          rw [dt hj, cond_true, nsAt_get hn]
          simp only [Option.bind_some]
          have hbu := hE.bound hG (v := u) (by omega)
          have hbv := hE.bound hG hv
          have hcv := hc.2 v hv
          have hcl := hc.1
          rw [hu, gin_nat (by omega), nsAt_get (show u < E.length by omega), gin_nat (show v < E.length by omega), nsAt_get (show v < E.length by omega), nsAt_get (show v < cs.length by omega), wrap_ok (z := (n : Int) + 1) (by omega)]
          simp only [Option.bind_some]
          rw [wrap_ok (z := nsAt E u + nsAt cs v) (by omega), gset_nat]
          have quiet : (0 ≤ nsAt E u → Sat cs E u v) → (fl = false → E = D ∧ (∀ u w : Nat, u < N → (w : Int) < (v : Int) → (u : Int) ∈ gAt G w → 0 ≤ nsAt D u → Sat cs D u w) ∧ ∀ j : Nat, (j : Int) < (n : Int) + 1 → 0 ≤ nsAt D (nsAt (gAt G v) j).toNat → Sat cs D (nsAt (gAt G v) j).toNat v) := by
            intro hq e
            obtain ⟨e1, e2, e3⟩ := hf e
            refine ⟨e1, e2, fun j hj g0 => ?_⟩
            by_cases q : j = n
            · subst q
              rw [hu, Int.toNat_natCast] at g0 ⊢
              rw [← e1] at g0 ⊢
              exact hq g0
            · exact e3 j (by omega) g0
          by_cases g1 : 0 ≤ nsAt E u
          rotate_left
          · rw [df g1, cond_false]
            exact ⟨_, rfl, ⟨⟨by simp only; omega, by simp only; omega⟩, hE, hE0, ht, quiet (fun e => absurd e g1)⟩, by simp only; omega⟩
          rw [dt g1, cond_true]
          have act : (nsAt E v < 0 ∨ nsAt E u + nsAt cs v < nsAt E v) → DInv N G cs ss (E.set v (nsAt E u + nsAt cs v)) ∧ St0 ss (E.set v (nsAt E u + nsAt cs v)) ∧ pot (E.set v (nsAt E u + nsAt cs v)) < pot D := by
            intro hlt
            have r := relax hG hc hE (show u < N by omega) hv hmem g1 hlt
            refine ⟨r.1, relax_keep hE0 (by omega) (by omega) hlt, ?_⟩
            cases fl with
            | true => have := ht rfl; omega
            | false => have := (hf rfl).1; rw [this] at r ⊢; exact r.2.1
          by_cases g2 : nsAt E v < 0
          · rw [dt g2, cond_true]
            obtain ⟨a1, a2, a3⟩ := act (Or.inl g2)
            exact ⟨_, rfl, ⟨⟨by simp only; omega, by simp only; omega⟩, a1, a2, fun _ => a3, fun e => by simp at e⟩, by simp only; omega⟩
          rw [df g2, cond_false]
          by_cases g3 : nsAt E u + nsAt cs v < nsAt E v
          · rw [dt g3, cond_true]
            obtain ⟨a1, a2, a3⟩ := act (Or.inr g3)
            exact ⟨_, rfl, ⟨⟨by simp only; omega, by simp only; omega⟩, a1, a2, fun _ => a3, fun e => by simp at e⟩, by simp only; omega⟩
          · rw [df g3, cond_false]
            exact ⟨_, rfl, ⟨⟨by simp only; omega, by simp only; omega⟩, hE, hE0, ht, quiet (fun _ => ⟨by omega, by omega⟩)⟩, by simp only; omega⟩
end Go.Pf

