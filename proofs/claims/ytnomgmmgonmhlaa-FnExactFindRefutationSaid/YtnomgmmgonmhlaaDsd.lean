/-
  Own work. Distances of the device's graph: both sides alike; starts and costs.
-/
import Derived.Test.YtnomgmmgonmhlaaDsc
namespace Go.Pf
open Go Go.Pu
set_option linter.unusedVariables false

def exP (d : Dev) (ss : List Int) : Bool := ss.all fun s => decide (rnOkP d s)
theorem ex_spec (d : Dev) (ss : List Int) (hl : ss.length ≤ 1048576) : spec_l33Exist (d, ss) = some (exP d ss) := by
  unfold spec_l33Exist
  have e : exP d ss = if (List.range ss.length).all (fun k => if hk : k < ss.length then decide (rnOkP d ss[k]) else true) = true then true else false := by
    rw [all_range_list ss (fun s => decide (rnOkP d s)) _ (fun k hk => by rw [dif_pos hk])]
    show exP d ss = if exP d ss = true then true else false
    cases exP d ss <;> rfl
  rw [e]
  refine loop_all ss.length (fun k => (k : Int)) _ false true (fun k hk hok => ?_) (fun k hk hok => ?_) ?_
  · rw [dif_pos hk] at hok
    try dsimp only
    rw [dt (show (k : Int) < (ss.length : Int) by omega), cond_true, gget_nat hk]
    simp only [Option.bind_some, rnOk_spec]
    rw [hok, Bool.not_true, cond_false, wrap_ok (by omega)]; rfl
  · rw [dif_pos hk] at hok
    try dsimp only
    rw [dt (show (k : Int) < (ss.length : Int) by omega), cond_true, gget_nat hk]
    simp only [Option.bind_some, rnOk_spec]
    rw [hok]; rfl
  · try dsimp only
    rw [df (by omega), cond_false]; rfl
theorem starts_impl (d : Dev) (cs ss : List Int) (hcl : cs.length ≤ 1048576) (hl : ss.length ≤ 1048576) : impl_startsOk (d, (cs, ss)) = some (decide (costsP d cs) && exP d ss) := by
  unfold impl_startsOk
  rw [costs_impl d cs hcl]
  simp only [Option.bind_some]
  by_cases h : costsP d cs
  rotate_left
  · rw [df h]; rfl
  rw [dt h, Bool.not_true, cond_false, Bool.true_and]
  have e : exP d ss = if (List.range ss.length).all (fun k => if hk : k < ss.length then decide (rnOkP d ss[k]) else true) = true then true else false := by
    rw [all_range_list ss (fun s => decide (rnOkP d s)) _ (fun k hk => by rw [dif_pos hk])]
    show exP d ss = if exP d ss = true then true else false
    cases exP d ss <;> rfl
  rw [e]
  refine loop_all ss.length (fun k => (k : Int)) _ false true (fun k hk hok => ?_) (fun k hk hok => ?_) ?_
  · rw [dif_pos hk] at hok
    try dsimp only
    rw [dt (show (k : Int) < (ss.length : Int) by omega), cond_true, gget_nat hk]
    simp only [Option.bind_some, rnOk_impl]
    rw [hok, Bool.not_true, cond_false, wrap_ok (by omega)]; rfl
  · rw [dif_pos hk] at hok
    try dsimp only
    rw [dt (show (k : Int) < (ss.length : Int) by omega), cond_true, gget_nat hk]
    simp only [Option.bind_some, rnOk_impl]
    rw [hok]; rfl
  · try dsimp only
    rw [df (by omega), cond_false]; rfl
theorem costs_cs {d : Dev} {cs : List Int} (h : costsP d cs) : CsOk (nodesN d).toNat cs := by
  have hn := nodesN_le h.1
  have hl := h.2.1
  refine ⟨by omega, fun v hv => ?_⟩
  have hv2 : v < cs.length := by omega
  rw [← ns_at hv2]
  exact h.2.2 _ (List.getElem_mem hv2)
theorem ex_range {d : Dev} {ss : List Int} (h : exP d ss = true) : ∀ s ∈ ss, 0 ≤ s ∧ s < ((nodesN d).toNat : Int) := by
  intro s hs
  have := of_decide_eq_true (List.all_eq_true.1 h s hs)
  have h1 := this.2.1
  have h2 := this.2.2.1
  omega
/-- For good costs and starts: one list of distances, found by both. -/
theorem dist_both {d : Dev} {cs : List Int} (h : costsP d cs) {R : List (List Int)} (hR : RevOk (nodesN d).toNat (dG d) R) {ss : List Int} (hs : ∀ s ∈ ss, 0 ≤ s ∧ s < ((nodesN d).toNat : Int)) (hsl : ss.length ≤ 1048576) : ∃ D, spec_l33Distances (dG d, (cs, ss)) = some D ∧ impl_distances ((dG d, R), (cs, ss)) = some D ∧ IsDist (nodesN d).toNat (dG d) cs ss D := by
  obtain ⟨D, h1, h2⟩ := dist_spec (dG_ok h.1) (costs_cs h) hs hsl
  obtain ⟨E, h3, h4⟩ := dist_impl (dG_ok h.1) hR (costs_cs h) hs hsl
  have e := dist_uniq (costs_cs h) h2 h4
  subst e
  exact ⟨D, h1, h3, h2⟩
theorem distances_ok (d : Dev) (cs ss : List Int) (hcl : cs.length ≤ 1048576) (hl : ss.length ≤ 1048576) : ∃ D : List Int, D.length ≤ 828 ∧ spec_Distances (d, (cs, ss)) = some D ∧ impl_Distances (d, (cs, ss)) = some D := by
  unfold spec_Distances impl_Distances
  rw [starts_impl d cs ss hcl hl, costs_spec d cs hcl]
  simp only [Option.bind_some]
  by_cases h : costsP d cs
  rotate_left
  · rw [df h]; exact ⟨[], by simp, rfl, rfl⟩
  rw [dt h, Bool.not_true, cond_false, ex_spec d ss hl]
  simp only [Option.bind_some, Bool.true_and]
  cases he : exP d ss with
  | false => exact ⟨[], by simp, rfl, rfl⟩
  | true =>
    obtain ⟨R, h1, h2⟩ := graph_impl h.1
    obtain ⟨D, h3, h4, h5⟩ := dist_both h h2 (ex_range he) hl
    rw [graph_spec h.1, h1]
    simp only [Option.bind_some, Bool.not_true, cond_false]
    rw [h3, h4]
    have := nodesN_le h.1
    exact ⟨D, by have := h5.1.1; omega, rfl, rfl⟩
end Go.Pf
