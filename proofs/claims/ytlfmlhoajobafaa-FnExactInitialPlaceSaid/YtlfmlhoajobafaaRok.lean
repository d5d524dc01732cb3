/-
  Own work. Costs, paths' costs, routes, plainly.
-/
import Derived.Test.YtlfmlhoajobafaaSrc
import Derived.Test.YtlfmlhoajobafaaUse
namespace Go.Pf
open Go Go.Pu
set_option linter.unusedVariables false

/-! ### Costs -/
def costsP (d : Dev) (cs : List Int) : Prop := DOk d ∧ (cs.length : Int) = nodesN d ∧ ∀ c ∈ cs, 1 ≤ c ∧ c ≤ 100000
instance (d : Dev) (cs : List Int) : Decidable (costsP d cs) := by unfold costsP; exact inferInstance
theorem costs_all (d : Dev) (cs : List Int) (h : DOk d) (hl : (cs.length : Int) = nodesN d) : (if (List.range cs.length).all (fun k => if hk : k < cs.length then decide (1 ≤ cs[k] ∧ cs[k] ≤ 100000) else true) = true then true else false) = decide (costsP d cs) := by
  rw [all_range_list cs (fun c => decide (1 ≤ c ∧ c ≤ 100000)) _ (fun k hk => by rw [dif_pos hk])]
  by_cases ha : (cs.all fun c => decide (1 ≤ c ∧ c ≤ 100000)) = true
  · rw [if_pos ha, dt]
    refine ⟨h, hl, fun c hc => ?_⟩
    exact of_decide_eq_true (List.all_eq_true.1 ha c hc)
  · rw [if_neg ha, df]
    intro e
    exact ha (List.all_eq_true.2 (fun c hc => decide_eq_true (e.2.2 c hc)))
theorem costs_spec (d : Dev) (cs : List Int) (hl : cs.length ≤ 1048576) : spec_CostsOk (d, cs) = some (decide (costsP d cs)) := by
  unfold spec_CostsOk
  simp only [devOk_spec, Option.bind_some, routeNodes_spec]
  by_cases h : DOk d
  rotate_left
  · rw [df h, df (show ¬ costsP d cs from fun e => h e.1)]; rfl
  rw [dt h, if_pos h]
  simp only [Bool.not_true, cond_false]
  by_cases h2 : (cs.length : Int) = nodesN d
  rotate_left
  · rw [dt h2, cond_true, df (show ¬ costsP d cs from fun e => h2 e.2.1)]
  rw [df (show ¬ ((cs.length : Int) ≠ nodesN d) from fun e => e h2), cond_false, ← costs_all d cs h h2]
  refine loop_all cs.length (fun k => (k : Int)) _ false true (fun k hk hok => ?_) (fun k hk hok => ?_) ?_
  · rw [dif_pos hk] at hok
    try dsimp only
    rw [dt (show (k : Int) < (cs.length : Int) by omega), cond_true, gget_nat hk]
    simp only [Option.bind_some, inR_spec]
    rw [hok, Bool.not_true, cond_false, wrap_ok (by omega)]; rfl
  · rw [dif_pos hk] at hok
    try dsimp only
    rw [dt (show (k : Int) < (cs.length : Int) by omega), cond_true, gget_nat hk]
    simp only [Option.bind_some, inR_spec]
    rw [hok]; rfl
  · try dsimp only
    rw [df (by omega), cond_false]; rfl
theorem costs_impl (d : Dev) (cs : List Int) (hl : cs.length ≤ 1048576) : impl_CostsOk (d, cs) = some (decide (costsP d cs)) := by
  unfold impl_CostsOk
  simp only [devOk_impl, Option.bind_some]
  by_cases h : DOk d
  rotate_left
  · rw [df h, df (show ¬ costsP d cs from fun e => h e.1)]; rfl
  rw [dt h, routeNodes_impl h]
  simp only [Bool.not_true, cond_false, Option.bind_some]
  by_cases h2 : (cs.length : Int) = nodesN d
  rotate_left
  · rw [dt h2, cond_true, df (show ¬ costsP d cs from fun e => h2 e.2.1)]
  rw [df (show ¬ ((cs.length : Int) ≠ nodesN d) from fun e => e h2), cond_false, ← costs_all d cs h h2]
  refine loop_all cs.length (fun k => (k : Int)) _ false true (fun k hk hok => ?_) (fun k hk hok => ?_) ?_
  · rw [dif_pos hk] at hok
    try dsimp only
    rw [dt (show (k : Int) < (cs.length : Int) by omega), cond_true, gget_nat hk]
    simp only [Option.bind_some, inR_impl]
    rw [hok, Bool.not_true, cond_false, wrap_ok (by omega)]; rfl
  · rw [dif_pos hk] at hok
    try dsimp only
    rw [dt (show (k : Int) < (cs.length : Int) by omega), cond_true, gget_nat hk]
    simp only [Option.bind_some, inR_impl]
    rw [hok]; rfl
  · try dsimp only
    rw [df (by omega), cond_false]; rfl

/-! ### Paths' costs -/
theorem srcs_rn {d : Dev} {n x : Int} (h : x ∈ srcsP d n) : rnOkP d n := by
  unfold srcsP at h
  split at h
  · rename_i q; exact q.1
  · simp at h
theorem pathCost_ok (d : Dev) (cs ps : List Int) (hc : cs.length ≤ 1048576) (hp : ps.length ≤ 1048576) : ∃ v, spec_PathCost (d, (cs, ps)) = some v ∧ impl_PathCost (d, (cs, ps)) = some v := by
  have hi : impl_PathCost (d, (cs, ps)) = spec_PathCost (d, (cs, ps)) := by
    have e1 : impl_Sources = spec_Sources := by funext x; rw [srcs_spec x.1 x.2, srcs_impl x.1 x.2]
    have e2 : impl_hasInt = spec_l13Has := rfl
    have e3 : impl_RouteNodeOk = spec_RouteNodeOk := by funext x; rw [rnOk_spec x.1 x.2, rnOk_impl x.1 x.2]
    unfold impl_PathCost spec_PathCost
    rw [e1, e2, e3, costs_spec d cs hc, costs_impl d cs hc]
  have hs : ∃ v, spec_PathCost (d, (cs, ps)) = some v := by
    unfold spec_PathCost
    rw [costs_spec d cs hc]
    simp only [Option.bind_some]
    by_cases h : costsP d cs
    rotate_left
    · rw [df h]; exact ⟨_, rfl⟩
    rw [dt h, Bool.not_true, cond_false]
    by_cases h0 : (ps.length : Int) = 0
    · rw [dt h0]; exact ⟨_, rfl⟩
    rw [df h0, cond_false, gget_some (xs := ps) (by omega) (by omega)]
    simp only [Option.bind_some]
    rw [rnOk_spec]
    simp only [Option.bind_some]
    by_cases h1 : rnOkP d (ps.getD (0 : Int).toNat 0)
    rotate_left
    · rw [df h1]; exact ⟨_, rfl⟩
    rw [dt h1, Bool.not_true, cond_false]
    obtain ⟨o, g1, _⟩ := loop_spec (f := (fun (v8 : (Int × Int)) =>
      let v9 : Int := ((ps).length : Int)
      let v10 : Bool := decide (v8.2 < v9)
      bif v10 then (
        (gget 0 ps v8.2).bind fun v11 =>
        let v12 : Int := wrap .i64 (v8.2 - 1)
        (gget 0 ps v12).bind fun v13 =>
        (spec_Sources (d, v11)).bind fun v14 =>
        (spec_l13Has (v14, v13)).bind fun v15 =>
        let v16 : Bool := !v15
        bif v16 then (
          Option.map Sum.inr (
            some (-1))) else
        (gget 0 ps v8.2).bind fun v17 =>
        (gget 0 cs v17).bind fun v18 =>
        let v19 : Int := wrap .i64 (v8.1 + v18)
        let v20 : Int := wrap .i64 (v8.2 + 1)
        some (.inl (v19, v20))) else
      Option.map Sum.inr (
        some v8.1))) (fun s => 1 ≤ s.2 ∧ s.2 ≤ ps.length) (fun _ => True) (fun s => (ps.length - s.2).toNat) (fun s hs => by
        obtain ⟨a, i⟩ := s
        simp only at hs
        obtain ⟨k, rfl⟩ : ∃ k : Nat, i = ((k + 1 : Nat) : Int) := ⟨(i - 1).toNat, by omega⟩
        try dsimp only
        by_cases hi : ((k + 1 : Nat) : Int) < (ps.length : Int)
        · have ew : wrap .i64 (((k + 1 : Nat) : Int) - 1) = (k : Int) := by rw [wrap_ok (by omega)]; omega
          rw [dt hi, cond_true, gget_nat (show k + 1 < ps.length by omega), ew, gget_nat (show k < ps.length by omega)]
          simp only [Option.bind_some]
          rw [srcs_spec]
          simp only [Option.bind_some]
          rw [has_spec _ _ (Nat.le_trans (srcsP_len _ _) (by decide))]
          simp only [Option.bind_some]
          by_cases hm : ps[k] ∈ srcsP d ps[k + 1]
          · left
            have hr := srcs_rn hm
            have h2 := hr.2.2.1
            rw [dt hm, Bool.not_true, cond_false, gget_some (xs := cs) hr.2.1 (by rw [h.2.1]; exact h2)]
            simp only [Option.bind_some]
            rw [wrap_ok (z := ((k + 1 : Nat) : Int) + 1) (by omega)]
            exact ⟨_, rfl, ⟨by simp only; omega, by simp only; omega⟩, by simp only; omega⟩
          · right
            rw [df hm]
            exact ⟨_, rfl, trivial⟩
        · right
          rw [df hi, cond_false]
          exact ⟨_, rfl, trivial⟩) (0, 1) ⟨by simp, by simp only; omega⟩
    exact ⟨o, g1⟩
  obtain ⟨v, hv⟩ := hs
  exact ⟨v, hv, by rw [hi, hv]⟩

/-! ### Routes -/
def pAt (xs : List Int) (i : Int) : Int := xs.getD i.toNat 0
def roOk (d : Dev) (src : Int) (snks ns ps : List Int) (k : Nat) : Prop :=
  rnOkP d (nsAt ns k) ∧ nsAt ns k ∉ ns.take k ∧ (if k = 0 then nsAt ns 0 = src ∧ nsAt ps 0 = 0 ∧ (nPin d (nsAt ns 0) = 5 ∨ nPin d (nsAt ns 0) = 6)
    else (0 ≤ nsAt ps k ∧ nsAt ps k < (k : Int)) ∧ pAt ns (nsAt ps k) ∈ srcsP d (nsAt ns k) ∧ (nPin d (nsAt ns k) < 5 → nsAt ns k ∈ snks))
instance (d : Dev) (src : Int) (snks ns ps : List Int) (k : Nat) : Decidable (roOk d src snks ns ps k) := by unfold roOk; exact inferInstance
def rnN (d : Dev) : Int := if DOk d then nodesN d else 0
theorem rnN_le (d : Dev) : 0 ≤ rnN d ∧ rnN d ≤ 828 := by
  unfold rnN; split
  · rename_i h; have := nodesN_le h; omega
  · omega
def allIn (snks ns : List Int) : Bool := snks.all fun s => decide (s ∈ ns)
def allInN (N : Nat) (snks ns : List Int) : Bool := snks.all fun s => decide ((0 ≤ s ∧ s < (N : Int)) ∧ s ∈ ns)
def roP (d : Dev) (src : Int) (snks ns ps : List Int) : Bool :=
  if (1 ≤ (ns.length : Int) ∧ (ns.length : Int) ≤ rnN d) ∧ ps.length = ns.length then (if (List.range ns.length).all (fun k => decide (roOk d src snks ns ps k)) = true then allIn snks ns else false) else false
theorem nsAt_get {ns : List Int} {k : Nat} (h : k < ns.length) : gget 0 ns (k : Int) = some (nsAt ns k) := by rw [gget_nat h, ns_at h]
theorem isOut_impl (d : Dev) (n : Int) (h : n ≤ 9223372036854775807) : impl_isOutPin (d, n) = some (decide (rnOkP d n ∧ (nPin d n = 5 ∨ nPin d n = 6))) := by
  unfold impl_isOutPin
  rw [rnOk_impl]
  simp only [Option.bind_some]
  by_cases q : rnOkP d n
  · rw [dt q, Bool.not_true, cond_false, nplace_impl q.1 q.2.1 h]
    simp only [Option.bind_some]
    by_cases q5 : nPin d n = 5
    · rw [dt q5, dt (show rnOkP d n ∧ (nPin d n = 5 ∨ nPin d n = 6) from ⟨q, Or.inl q5⟩)]; rfl
    · rw [df q5, cond_false]
      congr 1
      rw [decide_eq_decide]
      exact ⟨fun e => ⟨q, Or.inr e⟩, fun e => by omega⟩
  · rw [df q, df (show ¬ (rnOkP d n ∧ _) from fun e => q e.1)]; rfl
theorem isIn_impl (d : Dev) (n : Int) (h : n ≤ 9223372036854775807) : impl_isInPin (d, n) = some (decide (rnOkP d n ∧ nPin d n < 5)) := by
  unfold impl_isInPin
  rw [rnOk_impl]
  simp only [Option.bind_some]
  by_cases q : rnOkP d n
  · rw [dt q, Bool.not_true, cond_false, nplace_impl q.1 q.2.1 h]
    simp only [Option.bind_some]
    congr 1
    rw [decide_eq_decide]
    exact ⟨fun e => ⟨q, e⟩, fun e => e.2⟩
  · rw [df q, df (show ¬ (rnOkP d n ∧ _) from fun e => q e.1)]; rfl
def mpA (ns : List Int) : Nat → List (Int × Bool)
  | 0 => []
  | k + 1 => mset (mpA ns k) (nsAt ns k) true
theorem mpA_get (ns : List Int) (x : Int) (k : Nat) (h : k ≤ ns.length) : mget (mpA ns k) x = decide (x ∈ ns.take k) := by
  induction k with
  | zero => simp [mpA, mget]
  | succ k ih =>
    show mget (mset (mpA ns k) (nsAt ns k) true) x = _
    rw [mget_mset, ih (by omega), take_at (by omega)]
    by_cases q : x = nsAt ns k
    · rw [if_pos q, dt (by simp [q])]
    · rw [if_neg q, decide_eq_decide]
      simp [q]
theorem ro_spec (d : Dev) (src : Int) (snks ns ps : List Int) (hsl : snks.length ≤ 1048576) : spec_RouteOk (d, (src, (snks, (ns, ps)))) = some (roP d src snks ns ps) := by
  have hN := rnN_le d
  unfold spec_RouteOk roP
  simp only [routeNodes_spec, Option.bind_some, inR_spec]
  have eN : (if DOk d then nodesN d else 0) = rnN d := rfl
  rw [eN]
  by_cases h1 : 1 ≤ (ns.length : Int) ∧ (ns.length : Int) ≤ rnN d
  rotate_left
  · rw [df h1, if_neg (fun e => h1 e.1)]; rfl
  rw [dt h1, Bool.not_true, cond_false]
  by_cases h2 : ps.length = ns.length
  rotate_left
  · rw [dt (by omega), if_neg (fun e => h2 e.2)]; rfl
  rw [df (show ¬ (ps.length : Int) ≠ (ns.length : Int) by omega), if_pos ⟨h1, h2⟩, cond_false]
  obtain ⟨N, hN2⟩ : ∃ N : Nat, rnN d = (N : Int) := ⟨(rnN d).toNat, by omega⟩
  rw [hN2, gmake_nat (by omega) (by omega)]
  simp only [Option.bind_some]
  have e0 : ((0 : Int), List.replicate N false) = (fun k : Nat => ((k : Int), seenA N (ns.take k))) 0 := by
    dsimp only; rw [seenA_nil, List.take_zero]; rfl
  rw [e0]
  have conv : (if (List.range ns.length).all (fun k => decide (roOk d src snks ns ps k)) = true then allInN N snks ns else false) = (if (List.range ns.length).all (fun k => decide (roOk d src snks ns ps k)) = true then allIn snks ns else false) := by
    by_cases hgood : (List.range ns.length).all (fun k => decide (roOk d src snks ns ps k)) = true
    rotate_left
    · rw [if_neg hgood, if_neg hgood]
    rw [if_pos hgood, if_pos hgood]
    unfold allIn allInN
    rw [Bool.eq_iff_iff, List.all_eq_true, List.all_eq_true]
    constructor
    · intro q s hs; exact decide_eq_true (of_decide_eq_true (q s hs)).2
    · intro q s hs
      have hm := of_decide_eq_true (q s hs)
      refine decide_eq_true ⟨?_, hm⟩
      obtain ⟨k, hk, rfl⟩ := List.getElem_of_mem hm
      rw [ns_at hk]
      have := of_decide_eq_true (List.all_eq_true.1 hgood k (List.mem_range.2 hk))
      have g1 := this.1
      have := g1.2.2.1
      refine ⟨g1.2.1, ?_⟩
      rw [← hN2]; unfold rnN; rw [if_pos g1.1]; exact this
  rw [← conv]
  refine loop_all ns.length (fun k => ((k : Int), seenA N (ns.take k))) (fun k => decide (roOk d src snks ns ps k)) false (allInN N snks ns) (fun k hk hok => ?_) (fun k hk hok => ?_) ?_
  · have hok := of_decide_eq_true hok
    obtain ⟨g1, g2, g3⟩ := hok
    have hd := g1.1
    have hp := per_le hd
    have hnn := g1.2.1
    have hlt : nsAt ns k < (N : Int) := by
      have := g1.2.2.1
      rw [← hN2]; unfold rnN; rw [if_pos hd]; exact this
    obtain ⟨m, hm⟩ : ∃ m : Nat, nsAt ns k = (m : Int) := ⟨(nsAt ns k).toNat, by omega⟩
    try dsimp only
    rw [dt (show (k : Int) < (ns.length : Int) by omega), cond_true, nsAt_get hk, seenA_len]
    simp only [Option.bind_some, rnOk_spec]
    rw [dt g1, Bool.not_true, cond_false, hm, gin_nat (by omega), seenA_get _ _ _ (by omega)]
    simp only [Option.bind_some]
    rw [← hm, df g2, cond_false, per_spec hd, hm, seenA_set _ _ _ (by omega), ← hm, ← take_at hk]
    simp only [Option.bind_some]
    rw [grem_nn hnn (by omega)]
    simp only [Option.bind_some]
    have e1 : nsAt ns k % per d = nPin d (nsAt ns k) := rfl
    rw [e1, wrap_ok (z := (k : Int) + 1) (by omega)]
    by_cases k0 : k = 0
    · subst k0
      rw [if_pos rfl] at g3
      obtain ⟨g3, g4, g5⟩ := g3
      have ep : gget 0 ps 0 = some (nsAt ps 0) := nsAt_get (show 0 < ps.length by omega)
      have en : gget 0 ns 0 = some (nsAt ns 0) := nsAt_get (show 0 < ns.length by omega)
      rw [dt (by simp), cond_true, en]
      simp only [Option.bind_some]
      rw [df (fun e => e g3), cond_false, ep]
      simp only [Option.bind_some]
      rw [df (fun e => e g4), cond_false]
      rcases g5 with g5 | g5
      · rw [df (fun e => e g5), cond_false]; rfl
      · rw [dt (show nPin d (nsAt ns 0) ≠ 5 by omega), cond_true, df (fun e => e g5), cond_false]; rfl
    · rw [if_neg k0] at g3
      obtain ⟨g3, g4, g5⟩ := g3
      rw [df (by omega), cond_false, nsAt_get (show k < ps.length by omega)]
      simp only [Option.bind_some]
      rw [df (show ¬ nsAt ps k < 0 by omega), cond_false, df (show ¬ (k : Int) ≤ nsAt ps k by omega), cond_false, gget_some (xs := ns) g3.1 (by omega)]
      simp only [Option.bind_some]
      rw [srcs_spec]
      simp only [Option.bind_some]
      rw [has_spec _ _ (Nat.le_trans (srcsP_len _ _) (by decide))]
      simp only [Option.bind_some]
      rw [dt (show ns.getD (nsAt ps k).toNat 0 ∈ srcsP d (nsAt ns k) from g4), Bool.not_true, cond_false]
      by_cases q : nPin d (nsAt ns k) < 5
      · rw [dt q, cond_true, has_spec _ _ (by omega)]
        simp only [Option.bind_some]
        rw [dt (g5 q), Bool.not_true, cond_false]; rfl
      · rw [df q, cond_false]; rfl
  · have hok := of_decide_eq_false hok
    try dsimp only
    rw [dt (show (k : Int) < (ns.length : Int) by omega), cond_true, nsAt_get hk, seenA_len]
    simp only [Option.bind_some, rnOk_spec]
    by_cases g1 : rnOkP d (nsAt ns k)
    rotate_left
    · rw [df g1]; rfl
    have hd := g1.1
    have hp := per_le hd
    have hnn := g1.2.1
    have hlt : nsAt ns k < (N : Int) := by
      have := g1.2.2.1
      rw [← hN2]; unfold rnN; rw [if_pos hd]; exact this
    obtain ⟨m, hm⟩ : ∃ m : Nat, nsAt ns k = (m : Int) := ⟨(nsAt ns k).toNat, by omega⟩
    rw [dt g1, Bool.not_true, cond_false, hm, gin_nat (by omega), seenA_get _ _ _ (by omega)]
    simp only [Option.bind_some]
    rw [← hm]
    by_cases g2 : nsAt ns k ∈ ns.take k
    · rw [dt g2]; rfl
    rw [df g2, cond_false, per_spec hd]
    simp only [Option.bind_some]
    rw [grem_nn hnn (by omega)]
    simp only [Option.bind_some]
    have e1 : nsAt ns k % per d = nPin d (nsAt ns k) := rfl
    rw [e1]
    by_cases k0 : k = 0
    · subst k0
      have ep : gget 0 ps 0 = some (nsAt ps 0) := nsAt_get (show 0 < ps.length by omega)
      have en : gget 0 ns 0 = some (nsAt ns 0) := nsAt_get (show 0 < ns.length by omega)
      rw [dt (by simp), cond_true, en]
      simp only [Option.bind_some]
      by_cases g3 : nsAt ns 0 = src
      rotate_left
      · rw [dt g3]; rfl
      rw [df (fun e => e g3), cond_false, ep]
      simp only [Option.bind_some]
      by_cases g4 : nsAt ps 0 = 0
      rotate_left
      · rw [dt g4]; rfl
      rw [df (fun e => e g4), cond_false]
      by_cases g5 : nPin d (nsAt ns 0) = 5
      · exact absurd ⟨g1, g2, by rw [if_pos rfl]; exact ⟨g3, g4, Or.inl g5⟩⟩ hok
      rw [dt g5, cond_true]
      by_cases g6 : nPin d (nsAt ns 0) = 6
      · exact absurd ⟨g1, g2, by rw [if_pos rfl]; exact ⟨g3, g4, Or.inr g6⟩⟩ hok
      rw [dt g6]; rfl
    · rw [df (by omega), cond_false, nsAt_get (show k < ps.length by omega)]
      simp only [Option.bind_some]
      by_cases g3 : nsAt ps k < 0
      · rw [dt g3]; rfl
      rw [df g3, cond_false]
      by_cases g4 : (k : Int) ≤ nsAt ps k
      · rw [dt g4]; rfl
      rw [df g4, cond_false, gget_some (xs := ns) (by omega) (by omega)]
      simp only [Option.bind_some]
      rw [srcs_spec]
      simp only [Option.bind_some]
      rw [has_spec _ _ (Nat.le_trans (srcsP_len _ _) (by decide))]
      simp only [Option.bind_some]
      have ea : ns.getD (nsAt ps k).toNat 0 = pAt ns (nsAt ps k) := rfl
      rw [ea]
      by_cases g5 : pAt ns (nsAt ps k) ∈ srcsP d (nsAt ns k)
      rotate_left
      · rw [df g5]; rfl
      rw [dt g5, Bool.not_true, cond_false]
      by_cases q : nPin d (nsAt ns k) < 5
      · rw [dt q, cond_true, has_spec _ _ (by omega)]
        simp only [Option.bind_some]
        by_cases g6 : nsAt ns k ∈ snks
        · exact absurd ⟨g1, g2, by rw [if_neg k0]; exact ⟨⟨by omega, by omega⟩, g5, fun _ => g6⟩⟩ hok
        rw [df g6]; rfl
      · exact absurd ⟨g1, g2, by rw [if_neg k0]; exact ⟨⟨by omega, by omega⟩, g5, fun e => absurd e q⟩⟩ hok
  · try dsimp only
    rw [df (by omega), cond_false]
    refine (Option.map_eq_some_iff).2 ⟨_, ?_, rfl⟩
    rw [seenA_len, List.take_of_length_le (Nat.le_refl _)]
    have e : allInN N snks ns = if (List.range snks.length).all (fun k => if hk : k < snks.length then decide ((0 ≤ snks[k] ∧ snks[k] < (N : Int)) ∧ snks[k] ∈ ns) else true) = true then true else false := by
      rw [all_range_list snks (fun s => decide ((0 ≤ s ∧ s < (N : Int)) ∧ s ∈ ns)) _ (fun k hk => by rw [dif_pos hk])]
      show allInN N snks ns = if allInN N snks ns = true then true else false
      cases allInN N snks ns <;> rfl
    rw [e]
    refine loop_all snks.length (fun k => (k : Int)) _ false true (fun k hk hok => ?_) (fun k hk hok => ?_) ?_
    · rw [dif_pos hk] at hok
      have hok := of_decide_eq_true hok
      obtain ⟨m, hm⟩ : ∃ m : Nat, snks[k] = (m : Int) := ⟨(snks[k]).toNat, by omega⟩
      try dsimp only
      rw [dt (show (k : Int) < (snks.length : Int) by omega), cond_true, gget_nat hk]
      simp only [Option.bind_some]
      rw [df (show ¬ snks[k] < 0 by omega), cond_false, df (show ¬ (N : Int) ≤ snks[k] by omega), cond_false, hm, gin_nat (by omega), seenA_get _ _ _ (by omega)]
      simp only [Option.bind_some]
      rw [← hm, dt hok.2, Bool.not_true, cond_false, wrap_ok (by omega)]; rfl
    · rw [dif_pos hk] at hok
      have hok := of_decide_eq_false hok
      try dsimp only
      rw [dt (show (k : Int) < (snks.length : Int) by omega), cond_true, gget_nat hk]
      simp only [Option.bind_some]
      by_cases g1 : snks[k] < 0
      · rw [dt g1]; rfl
      rw [df g1, cond_false]
      by_cases g2 : (N : Int) ≤ snks[k]
      · rw [dt g2]; rfl
      obtain ⟨m, hm⟩ : ∃ m : Nat, snks[k] = (m : Int) := ⟨(snks[k]).toNat, by omega⟩
      rw [df g2, cond_false, hm, gin_nat (by omega), seenA_get _ _ _ (by omega)]
      simp only [Option.bind_some]
      rw [← hm, df (fun e => hok ⟨⟨by omega, by omega⟩, e⟩)]; rfl
    · try dsimp only
      rw [df (by omega), cond_false]; rfl
theorem ro_impl (d : Dev) (src : Int) (snks ns ps : List Int) (hsl : snks.length ≤ 1048576) (hsr : src ≤ 9223372036854775807) : impl_RouteOk (d, (src, (snks, (ns, ps)))) = some (roP d src snks ns ps) := by
  have hN := rnN_le d
  unfold impl_RouteOk roP
  have eRN : impl_RouteNodes d = some (rnN d) := by
    unfold impl_RouteNodes rnN
    rw [devOk_impl]
    simp only [Option.bind_some]
    by_cases h : DOk d
    · rw [dt h, if_pos h, routeNodes_impl h]; rfl
    · rw [df h, if_neg h]; rfl
  simp only [eRN, Option.bind_some]
  by_cases h1 : (ns.length : Int) < 1
  · rw [dt h1, if_neg (fun e => by omega)]; rfl
  rw [df h1, cond_false]
  by_cases h1b : rnN d < (ns.length : Int)
  · rw [dt h1b, if_neg (fun e => by omega)]; rfl
  rw [df h1b, cond_false]
  by_cases h2 : ps.length = ns.length
  rotate_left
  · rw [dt (by omega), if_neg (fun e => h2 e.2)]; rfl
  rw [df (show ¬ (ps.length : Int) ≠ (ns.length : Int) by omega), if_pos ⟨by omega, h2⟩, cond_false]
  have ep : gget 0 ps 0 = some (nsAt ps 0) := nsAt_get (show 0 < ps.length by omega)
  have en : gget 0 ns 0 = some (nsAt ns 0) := nsAt_get (show 0 < ns.length by omega)
  have bad : ¬ roOk d src snks ns ps 0 → (if (List.range ns.length).all (fun k => decide (roOk d src snks ns ps k)) = true then allIn snks ns else false) = false := by
    intro e
    rw [if_neg]
    intro q
    exact e (of_decide_eq_true (List.all_eq_true.1 q 0 (List.mem_range.2 (by omega))))
  rw [en]
  simp only [Option.bind_some]
  by_cases h3 : nsAt ns 0 = src
  rotate_left
  · rw [dt h3, bad (fun e => h3 (by have := e.2.2; rw [if_pos rfl] at this; exact this.1))]; rfl
  rw [df (fun e => e h3), cond_false, isOut_impl d src hsr]
  simp only [Option.bind_some]
  by_cases h4 : rnOkP d src ∧ (nPin d src = 5 ∨ nPin d src = 6)
  rotate_left
  · rw [df h4, bad (fun e => h4 (by have := e.2.2; rw [if_pos rfl] at this; rw [← h3]; exact ⟨e.1, this.2.2⟩))]; rfl
  rw [dt h4, Bool.not_true, cond_false, ep]
  simp only [Option.bind_some]
  by_cases h5 : nsAt ps 0 = 0
  rotate_left
  · rw [dt h5, bad (fun e => h5 (by have := e.2.2; rw [if_pos rfl] at this; exact this.2.1))]; rfl
  rw [df (fun e => e h5), cond_false]
  have inSmall : ∀ n, rnOkP d n → n ≤ 9223372036854775807 := by
    intro n q
    have := q.2.2.1
    have := nodesN_le q.1
    omega
  refine loop_all ns.length (fun k => ((k : Int), mpA ns k)) (fun k => decide (roOk d src snks ns ps k)) false (allIn snks ns) (fun k hk hok => ?_) (fun k hk hok => ?_) ?_
  · have hok := of_decide_eq_true hok
    obtain ⟨g1, g2, g3⟩ := hok
    try dsimp only
    rw [dt (show (k : Int) < (ns.length : Int) by omega), cond_true, nsAt_get hk]
    simp only [Option.bind_some]
    rw [rnOk_impl]
    simp only [Option.bind_some]
    rw [dt g1, Bool.not_true, cond_false, mpA_get _ _ _ (by omega), df g2, cond_false, wrap_ok (z := (k : Int) + 1) (by omega), isIn_impl _ _ (inSmall _ g1)]
    simp only [Option.bind_some]
    by_cases k0 : k = 0
    · subst k0
      rw [if_pos rfl] at g3
      rw [df (show ¬ (0 : Int) < ((0 : Nat) : Int) by simp), cond_false, df (fun e => by have := e.2; omega), cond_false]; rfl
    · rw [if_neg k0] at g3
      obtain ⟨g3, g4, g5⟩ := g3
      rw [dt (show (0 : Int) < (k : Int) by omega), cond_true, nsAt_get (show k < ps.length by omega)]
      simp only [Option.bind_some]
      rw [wrap_ok (z := (k : Int) - 1) (by omega), inR_impl]
      simp only [Option.bind_some]
      rw [dt (by omega), Bool.not_true, cond_false, gget_some (xs := ns) g3.1 (by omega)]
      simp only [Option.bind_some]
      rw [srcs_impl]
      simp only [Option.bind_some]
      rw [has_impl _ _ (Nat.le_trans (srcsP_len _ _) (by decide))]
      simp only [Option.bind_some]
      rw [dt (show ns.getD (nsAt ps k).toNat 0 ∈ srcsP d (nsAt ns k) from g4), Bool.not_true, cond_false]
      by_cases q : nPin d (nsAt ns k) < 5
      · rw [dt ⟨g1, q⟩, cond_true, has_impl _ _ (by omega)]
        simp only [Option.bind_some]
        rw [dt (g5 q), Bool.not_true, cond_false]; rfl
      · rw [df (fun e => q e.2), cond_false]; rfl
  · have hok := of_decide_eq_false hok
    try dsimp only
    rw [dt (show (k : Int) < (ns.length : Int) by omega), cond_true, nsAt_get hk]
    simp only [Option.bind_some]
    rw [rnOk_impl]
    simp only [Option.bind_some]
    by_cases g1 : rnOkP d (nsAt ns k)
    rotate_left
    · rw [df g1]; rfl
    rw [dt g1, Bool.not_true, cond_false, mpA_get _ _ _ (by omega)]
    by_cases g2 : nsAt ns k ∈ ns.take k
    · rw [dt g2]; rfl
    rw [df g2, cond_false]
    by_cases k0 : k = 0
    · subst k0
      exact absurd ⟨g1, g2, by rw [if_pos rfl]; exact ⟨h3, h5, by rw [h3]; exact h4.2⟩⟩ hok
    rw [dt (show (0 : Int) < (k : Int) by omega), cond_true, nsAt_get (show k < ps.length by omega)]
    simp only [Option.bind_some]
    rw [wrap_ok (z := (k : Int) - 1) (by omega), inR_impl]
    simp only [Option.bind_some]
    by_cases g3 : 0 ≤ nsAt ps k ∧ nsAt ps k ≤ (k : Int) - 1
    rotate_left
    · rw [df g3]; rfl
    rw [dt g3, Bool.not_true, cond_false, gget_some (xs := ns) g3.1 (by omega)]
    simp only [Option.bind_some]
    rw [srcs_impl]
    simp only [Option.bind_some]
    rw [has_impl _ _ (Nat.le_trans (srcsP_len _ _) (by decide))]
    simp only [Option.bind_some]
    have ea : ns.getD (nsAt ps k).toNat 0 = pAt ns (nsAt ps k) := rfl
    rw [ea]
    by_cases g5 : pAt ns (nsAt ps k) ∈ srcsP d (nsAt ns k)
    rotate_left
    · rw [df g5]; rfl
    rw [dt g5, Bool.not_true, cond_false, isIn_impl _ _ (inSmall _ g1)]
    simp only [Option.bind_some]
    by_cases q : nPin d (nsAt ns k) < 5
    · rw [dt ⟨g1, q⟩, cond_true, has_impl _ _ (by omega)]
      simp only [Option.bind_some]
      by_cases g6 : nsAt ns k ∈ snks
      · exact absurd ⟨g1, g2, by rw [if_neg k0]; exact ⟨⟨g3.1, by omega⟩, g5, fun _ => g6⟩⟩ hok
      rw [df g6]; rfl
    · exact absurd ⟨g1, g2, by rw [if_neg k0]; exact ⟨⟨g3.1, by omega⟩, g5, fun e => absurd e q⟩⟩ hok
  · try dsimp only
    rw [df (by omega), cond_false]
    refine (Option.map_eq_some_iff).2 ⟨_, ?_, rfl⟩
    have e : allIn snks ns = if (List.range snks.length).all (fun k => if hk : k < snks.length then decide (snks[k] ∈ ns) else true) = true then true else false := by
      rw [all_range_list snks (fun s => decide (s ∈ ns)) _ (fun k hk => by rw [dif_pos hk])]
      show allIn snks ns = if allIn snks ns = true then true else false
      cases allIn snks ns <;> rfl
    rw [e]
    have hmg : ∀ x, mget (mpA ns ns.length) x = decide (x ∈ ns) := fun x => by rw [mpA_get _ _ _ (Nat.le_refl _), List.take_of_length_le (Nat.le_refl _)]
    refine loop_all snks.length (fun k => (k : Int)) _ false true (fun k hk hok => ?_) (fun k hk hok => ?_) ?_
    · rw [dif_pos hk] at hok
      try dsimp only
      rw [dt (show (k : Int) < (snks.length : Int) by omega), cond_true, gget_nat hk]
      simp only [Option.bind_some, hmg]
      rw [hok, Bool.not_true, cond_false, wrap_ok (by omega)]; rfl
    · rw [dif_pos hk] at hok
      try dsimp only
      rw [dt (show (k : Int) < (snks.length : Int) by omega), cond_true, gget_nat hk]
      simp only [Option.bind_some, hmg]
      rw [hok]; rfl
    · try dsimp only
      rw [df (by omega), cond_false]; rfl
end Go.Pf
