/-
  Own work. A route that grows sink by sink, plainly.
-/
import Derived.Test.YtjpkedhcbnklmaaCpa
namespace Go.Pf
open Go Go.Pu
set_option linter.unusedVariables false

noncomputable def grwS (G : List (List Int)) (cs snks : List Int) (v3 : Int × (List Int × List Int)) : Option ((Int × (List Int × List Int)) ⊕ ((List Int × List Int) × Bool)) :=
    let v4 : Int := ((snks).length : Int)
    let v5 : Bool := decide (v3.1 < v4)
    bif v5 then (
      (gget 0 snks v3.1).bind fun v6 =>
      let v7 : Bool := decide (v6 < 0)
      bif v7 then (
        Option.map Sum.inr (
          some ((([] : List Int), ([] : List Int)), false))) else
      (gget 0 snks v3.1).bind fun v8 =>
      let v9 : Int := ((G).length : Int)
      let v10 : Bool := decide (v9 ≤ v8)
      bif v10 then (
        Option.map Sum.inr (
          some ((([] : List Int), ([] : List Int)), false))) else
      (gget 0 snks v3.1).bind fun v11 =>
      (spec_l13Has (v3.2.1, v11)).bind fun v12 =>
      bif v12 then (
        let v13 : Int := wrap .i64 (v3.1 + 1)
        some (.inl (v13, v3.2))) else
      (spec_l33Distances (G, (cs, v3.2.1))).bind fun v13 =>
      (gget 0 snks v3.1).bind fun v14 =>
      (gin (v13).length v14).bind fun _ =>
      (gget 0 v13 v14).bind fun v16 =>
      let v17 : Bool := decide (v16 < 0)
      bif v17 then (
        Option.map Sum.inr (
          some ((([] : List Int), ([] : List Int)), false))) else
      (gget 0 snks v3.1).bind fun v18 =>
      (spec_l33Path (G, (cs, (v13, v18)))).bind fun v19 =>
      Pu.loop (fun (v20 : (Int × Int)) =>
        let v21 : Int := ((v3.2.1).length : Int)
        let v22 : Bool := decide (v20.1 < v21)
        bif v22 then (
          (gin (v3.2.1).length v20.1).bind fun _ =>
          (gget 0 v3.2.1 v20.1).bind fun v24 =>
          (gin (v19).length 0).bind fun _ =>
          (gget 0 v19 0).bind fun v26 =>
          let v27 : Bool := decide (v24 = v26)
          bif v27 then (
            let v28 : Int := wrap .i64 (v20.1 + 1)
            some (.inl (v28, v20.1))) else
          let v28 : Int := wrap .i64 (v20.1 + 1)
          some (.inl (v28, v20.2))) else
        Option.map Sum.inr (
          Pu.loop (fun (v23 : (Int × (Int × (List Int × List Int)))) =>
            let v24 : Int := ((v19).length : Int)
            let v25 : Bool := decide (v23.2.1 < v24)
            bif v25 then (
              (gin (v19).length v23.2.1).bind fun _ =>
              (gget 0 v19 v23.2.1).bind fun v27 =>
              let v28 : List Int := [v27]
              (gapp 8 v23.2.2.1 v28).bind fun v29 =>
              let v30 : List Int := [v23.1]
              (gapp 8 v23.2.2.2 v30).bind fun v31 =>
              let v32 : Int := ((v29).length : Int)
              let v33 : Int := wrap .i64 (v32 - 1)
              let v34 : Int := wrap .i64 (v23.2.1 + 1)
              some (.inl (v33, (v34, (v29, v31))))) else
            Option.map Sum.inr (
              let v26 : Int := wrap .i64 (v3.1 + 1)
              some (.inl (v26, v23.2.2)))) (v20.2, (1, v3.2)))) (0, 0)) else
    Option.map Sum.inr (
      some (v3.2, true))
noncomputable def grwI (GR : List (List Int) × List (List Int)) (cs snks : List Int) (v4 : Int × (List Int × List Int)) : Option ((Int × (List Int × List Int)) ⊕ ((List Int × List Int) × Bool)) :=
    let v5 : Bool := decide (v4.1 < ((snks).length : Int))
    bif v5 then (
      (gget 0 snks v4.1).bind fun v6 =>
      (impl_hasInt (v4.2.1, v6)).bind fun v7 =>
      bif v7 then (
        let v8 : Int := wrap .i64 (v4.1 + 1)
        some (.inl (v8, v4.2))) else
      (impl_cheapestPath (GR, (cs, (v4.2.1, v6)))).bind fun v8 =>
      (gnil true v8).bind fun v9 =>
      bif v9 then (
        Option.map Sum.inr (
          some ((([] : List Int), ([] : List Int)), false))) else
      let v10 : Int := ((v4.2.1).length : Int)
      Pu.loop (fun (v11 : (Int × Int)) =>
        let v12 : Bool := decide (v11.1 < v10)
        bif v12 then (
          (gin (v4.2.1).length v11.1).bind fun _ =>
          (gget 0 v4.2.1 v11.1).bind fun v14 =>
          (gin (v8).length 0).bind fun _ =>
          (gget 0 v8 0).bind fun v16 =>
          let v17 : Bool := decide (v14 = v16)
          bif v17 then (
            let v18 : Int := wrap .i64 (v11.1 + 1)
            some (.inl (v18, v11.1))) else
          let v18 : Int := wrap .i64 (v11.1 + 1)
          some (.inl (v18, v11.2))) else
        Option.map Sum.inr (
          (gslice v8 1 ((v8).length : Int)).bind fun v13 =>
          let v14 : Int := ((v13).length : Int)
          Pu.loop (fun (v15 : (Int × (Int × (List Int × List Int)))) =>
            let v16 : Bool := decide (v15.2.1 < v14)
            bif v16 then (
              (gget 0 v13 v15.2.1).bind fun v17 =>
              let v18 : List Int := [v17]
              (gapp 8 v15.2.2.1 v18).bind fun v19 =>
              let v20 : List Int := [v15.1]
              (gapp 8 v15.2.2.2 v20).bind fun v21 =>
              let v22 : Int := ((v19).length : Int)
              let v23 : Int := wrap .i64 (v22 - 1)
              let v24 : Int := wrap .i64 (v15.2.1 + 1)
              some (.inl (v23, (v24, (v19, v21))))) else
            Option.map Sum.inr (
              let v17 : Int := wrap .i64 (v4.1 + 1)
              some (.inl (v17, v15.2.2)))) (v11.2, (0, v4.2)))) (0, 0)) else
    Option.map Sum.inr (
      some (v4.2, true))
/-- The last place of a in the list (0 if it is not there). -/
def lastAt (ns : List Int) (a : Int) : Nat → Int
  | 0 => 0
  | k + 1 => if nsAt ns k = a then (k : Int) else lastAt ns a k
theorem lastAt_succ (ns : List Int) (a : Int) (k : Nat) : lastAt ns a (k + 1) = if nsAt ns k = a then (k : Int) else lastAt ns a k := rfl
def pars (idx : Int) (L : Nat) : Nat → List Int
  | 0 => []
  | k + 1 => pars idx L k ++ [if k = 0 then idx else (((L + k : Nat) : Int) - 1)]
theorem pars_len (idx : Int) (L k : Nat) : (pars idx L k).length = k := by
  induction k with
  | zero => rfl
  | succ k ih => unfold pars; simp [ih]
/-- What a grown route keeps. -/
def GrowOk (N : Nat) (st : List Int × List Int) : Prop := st.1.Nodup ∧ (∀ x ∈ st.1, 0 ≤ x ∧ x < (N : Int)) ∧ st.2.length = st.1.length
theorem GrowOk.len {N : Nat} {st : List Int × List Int} (h : GrowOk N st) : st.1.length ≤ N := nodup_le N _ h.1 h.2.1
theorem grow_step {N : Nat} {G R : List (List Int)} {cs : List Int} (hG : GrOk N G) (hR : RevOk N G R) (hc : CsOk N cs) (snks : List Int) (st : List Int × List Int) (hst : GrowOk N st) (hne : st.1 ≠ []) (k : Nat) (hk : k < snks.length) (hkl : snks.length ≤ 1048576) :
    (grwS G cs snks ((k : Int), st) = some (.inr (([], []), false)) ∧ grwI (G, R) cs snks ((k : Int), st) = some (.inr (([], []), false))) ∨
    ∃ st', GrowOk N st' ∧ st'.1 ≠ [] ∧ grwS G cs snks ((k : Int), st) = some (.inl (((k + 1 : Nat) : Int), st')) ∧ grwI (G, R) cs snks ((k : Int), st) = some (.inl (((k + 1 : Nat) : Int), st')) := by
  obtain ⟨ns, ps⟩ := st
  have hlen := hst.len
  have hN := hG.2.1
  have hGl := hG.1
  obtain ⟨hnd, hrg, hpl⟩ := hst
  simp only at hnd hrg hpl hlen hne
  obtain ⟨D, d1, d2⟩ := dist_spec hG hc hrg (show ns.length ≤ 1048576 by omega)
  obtain ⟨E, d3, d4⟩ := dist_impl hG hR hc hrg (show ns.length ≤ 1048576 by omega)
  have hu := dist_uniq hc d2 d4
  subst hu
  have hDl := d2.1.1
  unfold grwS grwI
  try dsimp only
  rw [dt (show (k : Int) < (snks.length : Int) by omega), cond_true, cond_true, nsAt_get hk]
  simp only [Option.bind_some]
  rw [has_impl _ _ (by omega), cheapest_impl hG hc d3 d2 hrg (by omega)]
  simp only [Option.bind_some]
  generalize nsAt snks k = tgt at *
  by_cases g1 : tgt < 0
  · left
    have hno : tgt ∉ ns := fun q => by have := hrg _ q; omega
    rw [dt g1, df hno, if_neg (fun e => by omega)]
    exact ⟨rfl, rfl⟩
  rw [df g1, cond_false]
  by_cases g2 : (G.length : Int) ≤ tgt
  · left
    have hno : tgt ∉ ns := fun q => by have := hrg _ q; omega
    rw [dt g2, df hno, if_neg (fun e => by omega)]
    exact ⟨rfl, rfl⟩
  rw [df g2, cond_false, has_spec _ _ (by omega)]
  simp only [Option.bind_some]
  by_cases g3 : tgt ∈ ns
  · right
    rw [dt g3, cond_true, cond_true, wrap_ok (by omega)]
    exact ⟨(ns, ps), ⟨hnd, hrg, hpl⟩, hne, rfl, rfl⟩
  rw [df g3, cond_false, cond_false, d1]
  simp only [Option.bind_some]
  obtain ⟨v, rfl⟩ : ∃ v : Nat, tgt = (v : Int) := ⟨tgt.toNat, by omega⟩
  have hv : v < N := by omega
  rw [gin_nat (by omega), nsAt_get (show v < D.length by omega), Int.toNat_natCast]
  simp only [Option.bind_some]
  by_cases g4 : nsAt D v < 0
  · left
    rw [dt g4, if_neg (fun e => by omega)]
    exact ⟨rfl, rfl⟩
  rw [df g4, cond_false, if_pos ⟨⟨by omega, by omega⟩, by omega⟩]
  obtain ⟨a, t, e1, e2, e3, e4, e5⟩ := path_full hG hc d2 hrg (by omega) hv (by omega)
  have htl := nodup_le _ _ e3 e4
  simp only [List.length_cons] at htl
  right
  rw [e1]
  simp only [Option.bind_some]
  have enil : gnil true (a :: t) = some false := rfl
  rw [enil]
  simp only [Option.bind_some, cond_false]
  have hgrow : GrowOk N (ns ++ t, ps ++ pars (lastAt ns a ns.length) ns.length t.length) := by
    refine ⟨?_, fun x hx => ?_, ?_⟩
    · simp only
      rw [List.nodup_append]
      refine ⟨hnd, (List.nodup_cons.1 e3).2, fun x hx y hy e => e5 y hy (by rw [← e]; exact hx)⟩
    · rcases List.mem_append.1 hx with q | q
      · exact hrg x q
      · exact e4 x (List.mem_cons_of_mem _ q)
    · simp only [List.length_append, pars_len]; omega
  have ga : gget 0 (a :: t) 0 = some a := gget_nat (show 0 < (a :: t).length by simp)
  have gi : gin (a :: t).length 0 = some () := gin_nat (show 0 < (a :: t).length by simp)
  have stepIdx : ∀ j, j < ns.length → (bif decide ((j : Int) < (ns.length : Int)) then (
          (gin (ns).length (j : Int)).bind fun _ =>
          (gget 0 ns (j : Int)).bind fun v24 =>
          (gin (a :: t).length 0).bind fun _ =>
          (gget 0 (a :: t) 0).bind fun v26 =>
          let v27 : Bool := decide (v24 = v26)
          bif v27 then (
            let v28 : Int := wrap .i64 ((j : Int) + 1)
            (some (.inl (v28, (j : Int))) : Option ((Int × Int) ⊕ ((Int × (List Int × List Int)) ⊕ ((List Int × List Int) × Bool))))) else
          let v28 : Int := wrap .i64 ((j : Int) + 1)
          some (.inl (v28, lastAt ns a j))) else none) = some (.inl (((j + 1 : Nat) : Int), lastAt ns a (j + 1))) := by
    intro j hj
    rw [dt (by omega), cond_true, gin_nat hj, nsAt_get hj, gi, ga]
    simp only [Option.bind_some]
    rw [wrap_ok (by omega), lastAt_succ]
    by_cases q : nsAt ns j = a
    · rw [dt q, if_pos q]; rfl
    · rw [df q, if_neg q]; rfl
  refine ⟨_, hgrow, by simp [hne], ?_, ?_⟩
  · refine loop_upto ns.length (fun j => ((j : Int), lastAt ns a j)) (fun j hj => ?_) ?_
    · have := stepIdx j hj
      try dsimp only at this ⊢
      rw [dt (show (j : Int) < (ns.length : Int) by omega), cond_true] at this ⊢
      exact this
    · try dsimp only
      rw [df (by omega), cond_false]
      refine (Option.map_eq_some_iff).2 ⟨_, ?_, rfl⟩
      have est : (lastAt ns a ns.length, ((1 : Int), (ns, ps))) = (fun j : Nat => ((if j = 0 then lastAt ns a ns.length else ((ns.length + j : Nat) : Int) - 1), ((j : Int) + 1, (ns ++ t.take j, ps ++ pars (lastAt ns a ns.length) ns.length j)))) 0 := by
        simp [pars]
      rw [est]
      refine loop_upto t.length (fun j => ((if j = 0 then lastAt ns a ns.length else ((ns.length + j : Nat) : Int) - 1), ((j : Int) + 1, (ns ++ t.take j, ps ++ pars (lastAt ns a ns.length) ns.length j)))) (fun j hj => ?_) ?_
      · have ej : (j : Int) + 1 = ((j + 1 : Nat) : Int) := rfl
        have l1 : (ns ++ t.take j).length = ns.length + j := by simp; omega
        have l2 := pars_len (lastAt ns a ns.length) ns.length j
        have htj : nsAt (a :: t) (j + 1) = t[j] := by unfold nsAt; simp [hj]
        try dsimp only
        rw [ej, dt (by simp only [List.length_cons]; omega), cond_true, gin_nat (by simp only [List.length_cons]; omega), nsAt_get (show j + 1 < (a :: t).length by simp only [List.length_cons]; omega), htj]
        simp only [Option.bind_some]
        rw [gapp_ok (by rw [l1]; simp; omega)]
        simp only [Option.bind_some]
        rw [gapp_ok (by rw [List.length_append, l2]; simp; omega)]
        simp only [Option.bind_some]
        have l3 : ((ns ++ t.take j ++ [t[j]]).length : Int) = ((ns.length + (j + 1) : Nat) : Int) := by rw [List.length_append, l1]; simp; omega
        rw [l3, wrap_ok (by omega), wrap_ok (by omega), if_neg (show ¬ j + 1 = 0 by omega), List.append_assoc ns, ← take_succ' t j hj, List.append_assoc ps]
        rfl
      · try dsimp only
        rw [df (by simp only [List.length_cons]; omega), cond_false, wrap_ok (by omega), List.take_of_length_le (Nat.le_refl _)]; rfl
  · refine loop_upto ns.length (fun j => ((j : Int), lastAt ns a j)) (fun j hj => ?_) ?_
    · have := stepIdx j hj
      try dsimp only at this ⊢
      rw [dt (show (j : Int) < (ns.length : Int) by omega), cond_true] at this ⊢
      exact this
    · try dsimp only
      rw [df (by omega), cond_false]
      refine (Option.map_eq_some_iff).2 ⟨_, ?_, rfl⟩
      have esl : gslice (a :: t) 1 ((a :: t).length : Int) = some t := by
        have := gslice_suf (xs := a :: t) (k := 1) (by simp)
        simpa using this
      rw [esl]
      simp only [Option.bind_some]
      have est : (lastAt ns a ns.length, ((0 : Int), (ns, ps))) = (fun j : Nat => ((if j = 0 then lastAt ns a ns.length else ((ns.length + j : Nat) : Int) - 1), ((j : Int), (ns ++ t.take j, ps ++ pars (lastAt ns a ns.length) ns.length j)))) 0 := by
        simp [pars]
      rw [est]
      refine loop_upto t.length (fun j => ((if j = 0 then lastAt ns a ns.length else ((ns.length + j : Nat) : Int) - 1), ((j : Int), (ns ++ t.take j, ps ++ pars (lastAt ns a ns.length) ns.length j)))) (fun j hj => ?_) ?_
      · have l1 : (ns ++ t.take j).length = ns.length + j := by simp; omega
        have l2 := pars_len (lastAt ns a ns.length) ns.length j
        try dsimp only
        rw [dt (show (j : Int) < (t.length : Int) by omega), cond_true, gget_nat hj]
        simp only [Option.bind_some]
        rw [gapp_ok (by rw [l1]; simp; omega)]
        simp only [Option.bind_some]
        rw [gapp_ok (by rw [List.length_append, l2]; simp; omega)]
        simp only [Option.bind_some]
        have l3 : ((ns ++ t.take j ++ [t[j]]).length : Int) = ((ns.length + (j + 1) : Nat) : Int) := by rw [List.length_append, l1]; simp; omega
        rw [l3, wrap_ok (by omega), wrap_ok (by omega), if_neg (show ¬ j + 1 = 0 by omega), List.append_assoc ns, ← take_succ' t j hj, List.append_assoc ps]
        rfl
      · try dsimp only
        rw [df (by omega), cond_false, wrap_ok (by omega), List.take_of_length_le (Nat.le_refl _)]; rfl
theorem grow_both {N : Nat} {G R : List (List Int)} {cs : List Int} (hG : GrOk N G) (hR : RevOk N G R) (hc : CsOk N cs) (snks : List Int) (hkl : snks.length ≤ 1048576) : ∀ (m k : Nat) (st : List Int × List Int), k + m = snks.length → GrowOk N st → st.1 ≠ [] →
    ∃ o, loop (grwS G cs snks) ((k : Int), st) = some o ∧ loop (grwI (G, R) cs snks) ((k : Int), st) = some o ∧ (GrowOk N o.1 ∨ o = (([], []), false)) := by
  intro m
  induction m with
  | zero =>
    intro k st hk hst hne
    have hk : k = snks.length := by omega
    subst hk
    refine ⟨(st, true), ?_, ?_, Or.inl hst⟩
    · rw [loop_eq]; unfold grwS; dsimp only; rw [df (show ¬ (snks.length : Int) < (snks.length : Int) by omega)]; rfl
    · rw [loop_eq]; unfold grwI; dsimp only; rw [df (show ¬ (snks.length : Int) < (snks.length : Int) by omega)]; rfl
  | succ m ih =>
    intro k st hk hst hne
    rcases grow_step hG hR hc snks st hst hne k (by omega) hkl with ⟨h1, h2⟩ | ⟨st', g1, g2, h1, h2⟩
    · exact ⟨_, by rw [loop_eq, h1], by rw [loop_eq, h2], Or.inr rfl⟩
    · obtain ⟨o, o1, o2, o3⟩ := ih (k + 1) st' (by omega) g1 g2
      exact ⟨o, by rw [loop_eq, h1]; exact o1, by rw [loop_eq, h2]; exact o2, o3⟩
end Go.Pf

