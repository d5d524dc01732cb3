/-
  Own work. Averages of positions, plainly: both sides alike.
-/
import Derived.Test.YtlfmlhoajobafaaDsa
import Derived.Test.YtlfmlhoajobafaaLawConnsOk
import Derived.Test.YtlfmlhoajobafaaMcs
namespace Go.Pf
open Go Go.Pu
set_option linter.unusedVariables false

/-! ### Two loops that go alike -/
theorem loop_both {σ ω : Type} {f g : σ → Option (σ ⊕ ω)} (I : σ → Prop) (Q : ω → Prop) (μ : σ → Nat) (h : ∀ s, I s → (∃ s', f s = some (.inl s') ∧ g s = some (.inl s') ∧ I s' ∧ μ s' < μ s) ∨ (∃ o, f s = some (.inr o) ∧ g s = some (.inr o) ∧ Q o)) :
    ∀ s, I s → ∃ o, loop f s = some o ∧ loop g s = some o ∧ Q o := by
  have key : ∀ n s, μ s < n → I s → ∃ o, loop f s = some o ∧ loop g s = some o ∧ Q o := by
    intro n
    induction n with
    | zero => intro s hs; omega
    | succ n ih =>
      intro s hs hi
      rcases h s hi with ⟨s', h1, h2, h3, h4⟩ | ⟨o, h1, h2, h3⟩
      · obtain ⟨o, h5, h6, h7⟩ := ih s' (by omega) h3
        exact ⟨o, by rw [loop_eq, h1]; exact h5, by rw [loop_eq, h2]; exact h6, h7⟩
      · exact ⟨o, by rw [loop_eq, h1], by rw [loop_eq, h2], h3⟩
  exact fun s hi => key _ s (Nat.lt_succ_self _) hi
theorem bothL {α β : Type} {X Y : Option (α ⊕ β)} {A : α → Prop} (h : ∃ o, X = some o ∧ Y = some o ∧ ∃ s, o = .inl s ∧ A s) : ∃ s, X = some (.inl s) ∧ Y = some (.inl s) ∧ A s := by
  obtain ⟨o, h1, h2, s, h3, h4⟩ := h
  exact ⟨s, by rw [h1, h3], by rw [h2, h3], h4⟩
theorem bothR {α β : Type} {X Y : Option β} {Q : β → Prop} (h : ∃ o, X = some o ∧ Y = some o ∧ Q o) : ∃ o, Option.map (Sum.inr : β → α ⊕ β) X = some (.inr o) ∧ Option.map (Sum.inr : β → α ⊕ β) Y = some (.inr o) ∧ Q o := by
  obtain ⟨o, h1, h2, h3⟩ := h
  exact ⟨o, by rw [h1]; rfl, by rw [h2]; rfl, h3⟩

/-! ### Touching -/
def tchP (c : Conn) (b : Int) : Bool := (c.2.1 :: c.2.2).any fun p => decide (p.1 = b)
theorem tch_spec (c : Conn) (b : Int) (hl : c.2.2.length ≤ 1048576) : spec_l30Touches (c, b) = some (tchP c b) := by
  unfold spec_l30Touches
  have hS : ∀ k, k < c.2.2.length → (c.2.1 :: c.2.2.take (k + 1)).any (fun p => decide (p.1 = b)) = ((c.2.1 :: c.2.2.take k).any (fun p => decide (p.1 = b)) || decide ((c.2.2.getD k (0, 0)).1 = b)) := by
    intro k hk
    rw [take_succ' c.2.2 k hk, ← List.cons_append, List.any_append, List.getD, List.getElem?_eq_getElem hk]
    simp
  have e0 : (decide (c.2.1.1 = b), (0 : Int)) = (fun k : Nat => ((c.2.1 :: c.2.2.take k).any (fun p => decide (p.1 = b)), (k : Int))) 0 := by simp
  try dsimp only
  rw [e0]
  refine loop_upto c.2.2.length (fun k => ((c.2.1 :: c.2.2.take k).any (fun p => decide (p.1 = b)), (k : Int))) (fun k hk => ?_) ?_
  · rw [hS k hk]
    try dsimp only
    rw [dt (show (k : Int) < (c.2.2.length : Int) by omega), cond_true, wrap_ok (by omega), gget_nat hk]
    have eg : (c.2.2.getD k (0, 0)) = c.2.2[k] := by rw [List.getD, List.getElem?_eq_getElem hk]; rfl
    rw [eg]
    cases (c.2.1 :: c.2.2.take k).any (fun p => decide (p.1 = b)) with
    | true => rfl
    | false => rfl
  · try dsimp only
    rw [df (by omega), cond_false, List.take_of_length_le (Nat.le_refl _)]; rfl
theorem pinsOf_impl (c : Conn) (hl : c.2.2.length ≤ 1048576) : impl_pinsOf c = some (c.2.1 :: c.2.2) := by
  unfold impl_pinsOf
  try dsimp only
  rw [gapp_some (by simp only [List.length_cons, List.length_nil]; omega) (by simp only [List.length_cons, List.length_nil]; omega)]; rfl
theorem tch_impl (c : Conn) (b : Int) (hl : c.2.2.length ≤ 1048576) : impl_touches (c, b) = some (tchP c b) := by
  unfold impl_touches
  rw [pinsOf_impl c hl]
  simp only [Option.bind_some]
  have hlen : (c.2.1 :: c.2.2).length = c.2.2.length + 1 := rfl
  have e : tchP c b = if (List.range (c.2.1 :: c.2.2).length).all (fun k => if hk : k < (c.2.1 :: c.2.2).length then !decide (((c.2.1 :: c.2.2)[k]).1 = b) else true) = true then false else true := by
    rw [all_range_list (c.2.1 :: c.2.2) (fun p => !decide (p.1 = b)) _ (fun k hk => by rw [dif_pos hk])]
    unfold tchP
    rw [← List.not_any_eq_all_not]
    cases (c.2.1 :: c.2.2).any fun p => decide (p.1 = b) <;> rfl
  rw [e]
  generalize c.2.1 :: c.2.2 = xs at *
  refine loop_all xs.length (fun k => (k : Int)) _ true false (fun k hk hok => ?_) (fun k hk hok => ?_) ?_
  · rw [dif_pos hk, Bool.not_eq_true'] at hok
    try dsimp only
    rw [dt (show (k : Int) < (xs.length : Int) by omega), cond_true, gin_nat hk, gget_nat hk]
    simp only [Option.bind_some]
    rw [hok, cond_false, wrap_ok (by omega)]; rfl
  · rw [dif_pos hk, Bool.not_eq_false'] at hok
    try dsimp only
    rw [dt (show (k : Int) < (xs.length : Int) by omega), cond_true, gin_nat hk, gget_nat hk]
    simp only [Option.bind_some]
    rw [hok]; rfl
  · try dsimp only
    rw [df (by omega), cond_false]; rfl

/-! ### What the right connections say -/
theorem cnsP_all {n : Int} {cs : List Conn} (h : cnsP n cs = true) : (0 ≤ n ∧ n ≤ 64) ∧ cs.length ≤ 100 ∧ ∀ c ∈ cs, c.2.2.length ≤ 120 ∧ ∀ p ∈ c.2.1 :: c.2.2, 0 ≤ p.1 ∧ p.1 < n := by
  unfold cnsP at h
  rw [Bool.and_eq_true] at h
  obtain ⟨h1, h2⟩ := h
  have h1 := of_decide_eq_true h1
  refine ⟨h1.1, h1.2, fun c hc => ?_⟩
  have h3 := List.all_eq_true.1 h2 c hc
  unfold cnP at h3
  rw [Bool.and_eq_true] at h3
  have h4 := of_decide_eq_true h3.1
  refine ⟨h4.1.2, fun p hp => ?_⟩
  rcases List.mem_cons.1 hp with q | q
  · subst q; exact h4.2.1
  · exact (of_decide_eq_true (List.all_eq_true.1 h3.2 p q)).1

/-! ### Averages -/
def a0P (d : Dev) (t : Int) : Int × Int := if t ≠ -1 then (100 * (t % d.1), 100 * (t / d.1)) else (50 * (d.1 - 1), 50 * (d.2.1 - 1))
def a0L (d : Dev) (ps : List Int) (k : Nat) : List (Int × Int) := (ps.take k).map (a0P d)
theorem a0L_len (d : Dev) (ps : List Int) (k : Nat) (h : k ≤ ps.length) : (a0L d ps k).length = k := by unfold a0L; simp; omega
theorem a0L_succ (d : Dev) (ps : List Int) (k : Nat) (h : k < ps.length) : a0L d ps (k + 1) = a0L d ps k ++ [a0P d (nsAt ps k)] := by
  unfold a0L; rw [take_at h, List.map_append]; rfl
def avOk (d : Dev) (ps : List Int) (k : Nat) : Bool := decide (nsAt ps k = -1 ∨ 0 ≤ tk d (nsAt ps k))
theorem gapp16' {xs ys : List (Int × Int)} (h : xs.length + ys.length ≤ 1000000000) : gapp 16 xs ys = some (xs ++ ys) := gapp_some (by omega) (by omega)
theorem avg_ok (d : Dev) (ps : List Int) (cns : List Conn) (r : Int) (hp : PsR ps) (hpl : ps.length ≤ 1048576) (hc : CnsOk cns) : ∃ o : List (Int × Int), (o.length ≤ 64 ∧ (DOk d → cnsP (ps.length : Int) cns = true → 0 ≤ r ∧ r ≤ 20 → (List.range ps.length).all (avOk d ps) = true → o.length = ps.length)) ∧ spec_Averages (d, (ps, (cns, r))) = some o ∧ impl_Averages (d, (ps, (cns, r))) = some o := by
  unfold spec_Averages impl_Averages
  rw [devOk_spec, devOk_impl]
  simp only [Option.bind_some]
  by_cases hd : DOk d
  rotate_left
  · rw [df hd]; exact ⟨[], ⟨by simp, fun q => absurd q hd⟩, rfl, rfl⟩
  rw [dt hd, Bool.not_true, cond_false, cond_false, cns_spec, cns_impl, inR_spec, inR_impl]
  simp only [Option.bind_some]
  cases hcn : cnsP (ps.length : Int) cns with
  | false => exact ⟨[], ⟨by simp, fun _ q => by simp at q⟩, rfl, rfl⟩
  | true =>
  rw [Bool.not_true, cond_false, cond_false]
  by_cases hr : 0 ≤ r ∧ r ≤ 20
  rotate_left
  · rw [df hr]; exact ⟨[], ⟨by simp, fun _ _ q => absurd q hr⟩, rfl, rfl⟩
  rw [dt hr, Bool.not_true, cond_false, cond_false]
  obtain ⟨hn, hcl, hcs⟩ := cnsP_all hcn
  have hw := hd.1
  have hh := hd.2.1
  have hm := mul_le36 hd.1 hd.2.1
  have hl0 := a0L_len d ps ps.length (Nat.le_refl _)
  have second := loop_both (f := (fun (v11 : (Int × List (Int × Int))) =>
        let v12 : Bool := decide (v11.1 < r)
        bif v12 then (
          Pu.loop (fun (v13 : (Int × List (Int × Int))) =>
            let v14 : Int := ((ps).length : Int)
            let v15 : Bool := decide (v13.1 < v14)
            bif v15 then (
              (gget 0 ps v13.1).bind fun v16 =>
              let v17 : Bool := decide (v16 ≠ (-1))
              bif v17 then (
                let v18 : Int := wrap .i64 (v13.1 + 1)
                some (.inl (v18, v13.2))) else
              Pu.loop (fun (v18 : (Int × (Int × (Int × Int)))) =>
                let v19 : Int := ((cns).length : Int)
                let v20 : Bool := decide (v18.1 < v19)
                bif v20 then (
                  (gget (0, ((0, 0), [])) cns v18.1).bind fun v21 =>
                  (spec_l30Touches (v21, v13.1)).bind fun v22 =>
                  let v23 : Bool := !v22
                  bif v23 then (
                    let v24 : Int := wrap .i64 (v18.1 + 1)
                    some (.inl (v24, v18.2))) else
                  (gget (0, ((0, 0), [])) cns v18.1).bind fun v24 =>
                  (gget (0, ((0, 0), [])) cns v18.1).bind fun v25 =>
                  let v26 : List (Int × Int) := [v24.2.1]
                  (gapp 16 v26 v25.2.2).bind fun v27 =>
                  Pu.loop (fun (v28 : (Int × (Int × (Int × Int)))) =>
                    let v29 : Int := ((v27).length : Int)
                    let v30 : Bool := decide (v28.2.2.2 < v29)
                    bif v30 then (
                      (gin (v27).length v28.2.2.2).bind fun _ =>
                      (gget (0, 0) v27 v28.2.2.2).bind fun v32 =>
                      let v33 : Bool := decide (v32.1 ≠ v13.1)
                      bif v33 then (
                        (gin (v27).length v28.2.2.2).bind fun _ =>
                        (gget (0, 0) v27 v28.2.2.2).bind fun v35 =>
                        (gin (v13.2).length v35.1).bind fun _ =>
                        (gget (0, 0) v13.2 v35.1).bind fun v37 =>
                        let v38 : Int := wrap .i64 (v28.1 + v37.1)
                        (gin (v27).length v28.2.2.2).bind fun _ =>
                        (gget (0, 0) v27 v28.2.2.2).bind fun v40 =>
                        (gin (v13.2).length v40.1).bind fun _ =>
                        (gget (0, 0) v13.2 v40.1).bind fun v42 =>
                        let v43 : Int := wrap .i64 (v28.2.1 + v42.2)
                        let v44 : Int := wrap .i64 (v28.2.2.1 + 1)
                        let v45 : Int := wrap .i64 (v28.2.2.2 + 1)
                        some (.inl (v38, (v43, (v44, v45))))) else
                      let v34 : Int := wrap .i64 (v28.2.2.2 + 1)
                      some (.inl (v28.1, (v28.2.1, (v28.2.2.1, v34))))) else
                    Option.map Sum.inr (
                      let v31 : Int := wrap .i64 (v18.1 + 1)
                      some (.inl (v31, (v28.1, (v28.2.1, v28.2.2.1)))))) (v18.2.1, (v18.2.2.1, (v18.2.2.2, 0)))) else
                Option.map Sum.inr (
                  let v21 : Bool := decide (0 < v18.2.2.2)
                  bif v21 then (
                    (gdiv .i64 v18.2.1 v18.2.2.2).bind fun v22 =>
                    (gdiv .i64 v18.2.2.1 v18.2.2.2).bind fun v23 =>
                    (gin (v13.2).length v13.1).bind fun _ =>
                    (gget (0, 0) v13.2 v13.1).bind fun v25 =>
                    let v26 : (Int × Int) := (v22, v23)
                    let v27 : List (Int × Int) := gset v13.2 v13.1 v26
                    let v28 : Int := wrap .i64 (v13.1 + 1)
                    some (.inl (v28, v27))) else
                  let v22 : Int := wrap .i64 (v13.1 + 1)
                  some (.inl (v22, v13.2)))) (0, (0, (0, 0)))) else
            Option.map Sum.inr (
              let v16 : Int := wrap .i64 (v11.1 + 1)
              some (.inl (v16, v13.2)))) (0, v11.2)) else
        Option.map Sum.inr (
          some v11.2)))
    (g := (fun (v11 : (Int × List (Int × Int))) =>
        let v12 : Bool := decide (v11.1 < r)
        bif v12 then (
          let v13 : Int := ((ps).length : Int)
          Pu.loop (fun (v14 : (Int × List (Int × Int))) =>
            let v15 : Bool := decide (v14.1 < v13)
            bif v15 then (
              (gget 0 ps v14.1).bind fun v16 =>
              let v17 : Bool := decide (v16 ≠ (-1))
              bif v17 then (
                let v18 : Int := wrap .i64 (v14.1 + 1)
                some (.inl (v18, v14.2))) else
              let v18 : Int := ((cns).length : Int)
              Pu.loop (fun (v19 : (Int × (Int × (Int × Int)))) =>
                let v20 : Bool := decide (v19.1 < v18)
                bif v20 then (
                  (gget (0, ((0, 0), [])) cns v19.1).bind fun v21 =>
                  (impl_touches (v21, v14.1)).bind fun v22 =>
                  let v23 : Bool := !v22
                  bif v23 then (
                    let v24 : Int := wrap .i64 (v19.1 + 1)
                    some (.inl (v24, v19.2))) else
                  (impl_pinsOf v21).bind fun v24 =>
                  let v25 : Int := ((v24).length : Int)
                  Pu.loop (fun (v26 : (Int × (Int × (Int × Int)))) =>
                    let v27 : Bool := decide (v26.2.2.2 < v25)
                    bif v27 then (
                      (gin (v24).length v26.2.2.2).bind fun _ =>
                      (gget (0, 0) v24 v26.2.2.2).bind fun v29 =>
                      let v30 : Bool := decide (v29.1 ≠ v14.1)
                      bif v30 then (
                        (gin (v14.2).length v29.1).bind fun _ =>
                        (gget (0, 0) v14.2 v29.1).bind fun v32 =>
                        let v33 : Int := wrap .i64 (v26.1 + v32.1)
                        (gin (v14.2).length v29.1).bind fun _ =>
                        (gget (0, 0) v14.2 v29.1).bind fun v35 =>
                        let v36 : Int := wrap .i64 (v26.2.1 + v35.2)
                        let v37 : Int := wrap .i64 (v26.2.2.1 + 1)
                        let v38 : Int := wrap .i64 (v26.2.2.2 + 1)
                        some (.inl (v33, (v36, (v37, v38))))) else
                      let v31 : Int := wrap .i64 (v26.2.2.2 + 1)
                      some (.inl (v26.1, (v26.2.1, (v26.2.2.1, v31))))) else
                    Option.map Sum.inr (
                      let v28 : Int := wrap .i64 (v19.1 + 1)
                      some (.inl (v28, (v26.1, (v26.2.1, v26.2.2.1)))))) (v19.2.1, (v19.2.2.1, (v19.2.2.2, 0)))) else
                Option.map Sum.inr (
                  let v21 : Bool := decide (0 < v19.2.2.2)
                  bif v21 then (
                    (gdiv .i64 v19.2.1 v19.2.2.2).bind fun v22 =>
                    (gdiv .i64 v19.2.2.1 v19.2.2.2).bind fun v23 =>
                    (gin (v14.2).length v14.1).bind fun _ =>
                    (gget (0, 0) v14.2 v14.1).bind fun v25 =>
                    let v26 : (Int × Int) := (v22, v23)
                    let v27 : List (Int × Int) := gset v14.2 v14.1 v26
                    let v28 : Int := wrap .i64 (v14.1 + 1)
                    some (.inl (v28, v27))) else
                  let v22 : Int := wrap .i64 (v14.1 + 1)
                  some (.inl (v22, v14.2)))) (0, (0, (0, 0)))) else
            Option.map Sum.inr (
              let v16 : Int := wrap .i64 (v11.1 + 1)
              some (.inl (v16, v14.2)))) (0, v11.2)) else
        Option.map Sum.inr (
          some v11.2))) (fun s => 0 ≤ s.1 ∧ s.2.length = ps.length) (fun o => o.length = ps.length) (fun s => (r - s.1).toNat) (fun s hs => by
    obtain ⟨i, A⟩ := s
    obtain ⟨i0, hA⟩ := hs
    simp only at i0 hA
    try dsimp only
    by_cases hi : i < r
    rotate_left
    · right
      rw [df hi, cond_false, cond_false]
      exact ⟨A, rfl, rfl, hA⟩
    left
    rw [dt hi, cond_true, cond_true]
    refine bothL (A := fun s' : Int × List (Int × Int) => (0 ≤ s'.1 ∧ s'.2.length = ps.length) ∧ (r - s'.1).toNat < (r - i).toNat) ?_
    refine loop_both (fun s : Int × List (Int × Int) => 0 ≤ s.1 ∧ s.2.length = ps.length) _ (fun s => (ps.length - s.1).toNat) (fun s hs => ?_) (0, A) ⟨by simp, hA⟩
    clear hA
    obtain ⟨j, B⟩ := s
    obtain ⟨j0, hB⟩ := hs
    simp only at j0 hB
    try dsimp only
    by_cases hj : j < (ps.length : Int)
    rotate_left
    · right
      rw [df hj, cond_false, cond_false, wrap_ok (by omega)]
      exact ⟨_, rfl, rfl, _, rfl, ⟨by simp only; omega, hB⟩, by simp only; omega⟩
    left
    rw [dt hj, cond_true, cond_true, gget_some (xs := ps) j0 hj, wrap_ok (z := j + 1) (by omega)]
    simp only [Option.bind_some]
    by_cases hq : ps.getD j.toNat 0 ≠ -1
    · rw [dt hq, cond_true, cond_true]
      exact ⟨_, rfl, rfl, ⟨by simp only; omega, hB⟩, by simp only; omega⟩
    rw [df hq, cond_false, cond_false]
    refine bothL (A := fun s' : Int × List (Int × Int) => (0 ≤ s'.1 ∧ s'.2.length = ps.length) ∧ (ps.length - s'.1).toNat < (ps.length - j).toNat) ?_
    refine loop_both (fun s : Int × (Int × (Int × Int)) => 0 ≤ s.1) _ (fun s => (cns.length - s.1).toNat) (fun s hs => ?_) (0, (0, (0, 0))) (by simp)
    obtain ⟨k, x, y, z⟩ := s
    simp only at hs
    try dsimp only
    by_cases hk : k < (cns.length : Int)
    rotate_left
    · right
      rw [df hk, cond_false, cond_false]
      refine bothR ?_
      by_cases hz : 0 < z
      · have gd : ∀ a, gdiv .i64 a z = some (wrap .i64 (a.tdiv z)) := fun a => by unfold gdiv; rw [if_neg (by omega)]
        rw [dt hz, cond_true, gd, gd, gin_some (by omega) (by omega), gget_some (by omega) (by omega)]
        simp only [Option.bind_some]
        refine ⟨_, rfl, rfl, _, rfl, ⟨by simp only; omega, ?_⟩, by simp only; omega⟩
        simp only
        unfold gset; rw [List.length_set]; exact hB
      · rw [df hz, cond_false]
        exact ⟨_, rfl, rfl, _, rfl, ⟨by simp only; omega, hB⟩, by simp only; omega⟩
    left
    obtain ⟨m, rfl⟩ : ∃ m : Nat, k = (m : Int) := ⟨k.toNat, by omega⟩
    have hmc : m < cns.length := by omega
    have hcm := hcs _ (List.getElem_mem hmc)
    rw [dt hk, cond_true, cond_true, gget_nat hmc, wrap_ok (z := (m : Int) + 1) (by omega)]
    simp only [Option.bind_some]
    rw [tch_spec _ _ (by omega), tch_impl _ _ (by omega), pinsOf_impl _ (by omega), gapp16' (by simp only [List.length_cons, List.length_nil]; omega)]
    simp only [Option.bind_some]
    cases tchP cns[m] j with
    | false => exact ⟨_, rfl, rfl, by simp only; omega, by simp only; omega⟩
    | true =>
    rw [Bool.not_true, cond_false, cond_false]
    have epin : [cns[m].2.1] ++ cns[m].2.2 = cns[m].2.1 :: cns[m].2.2 := rfl
    rw [epin]
    have hpin := hcm.2
    have hpl2 : (cns[m].2.1 :: cns[m].2.2).length ≤ 121 := by simp only [List.length_cons]; omega
    generalize cns[m].2.1 :: cns[m].2.2 = P at *
    refine bothL (A := fun s' : Int × (Int × (Int × Int)) => 0 ≤ s'.1 ∧ (cns.length - s'.1).toNat < (cns.length - (m : Int)).toNat) ?_
    refine loop_both (fun s : Int × (Int × (Int × Int)) => 0 ≤ s.2.2.2) _ (fun s => (P.length - s.2.2.2).toNat) (fun s hs => ?_) (x, (y, (z, 0))) (by simp)
    obtain ⟨x, y, z, w⟩ := s
    simp only at hs
    try dsimp only
    by_cases hw2 : w < (P.length : Int)
    rotate_left
    · right
      rw [df hw2, cond_false, cond_false]
      exact ⟨_, rfl, rfl, _, rfl, by simp only; omega, by simp only; omega⟩
    left
    obtain ⟨u, rfl⟩ : ∃ u : Nat, w = (u : Int) := ⟨w.toNat, by omega⟩
    have hu : u < P.length := by omega
    have hpu := hpin _ (List.getElem_mem hu)
    rw [dt hw2, cond_true, cond_true, gin_nat hu, gget_nat hu, wrap_ok (z := (u : Int) + 1) (by omega)]
    simp only [Option.bind_some]
    rw [gin_some (show 0 ≤ (P[u]).1 by omega) (by omega), gget_some (show 0 ≤ (P[u]).1 by omega) (by omega)]
    simp only [Option.bind_some]
    by_cases hne : (P[u]).1 ≠ j
    · rw [dt hne, cond_true]
      exact ⟨_, rfl, rfl, by simp only; omega, by simp only; omega⟩
    · rw [df hne, cond_false]
      exact ⟨_, rfl, rfl, by simp only; omega, by simp only; omega⟩) (0, a0L d ps ps.length) ⟨by simp, hl0⟩
  obtain ⟨o, o1, o2, o3⟩ := second
  have hok : ∀ k, k < ps.length → avOk d ps k = true → nsAt ps k ≠ -1 → (0 ≤ nsAt ps k ∧ nsAt ps k < d.1 * d.2.1) ∧ 0 ≤ tk d (nsAt ps k) := by
    intro k hk h1 h2
    have h1 := of_decide_eq_true h1
    rcases h1 with q | q
    · exact absurd q h2
    · exact ⟨tk_lt q, q⟩
  refine ⟨if (List.range ps.length).all (avOk d ps) = true then o else [], ?_, ?_, ?_⟩
  · refine ⟨?_, fun _ _ _ q => by rw [if_pos q]; exact o3⟩
    split
    · omega
    · simp
  · refine loop_all ps.length (fun k => ((k : Int), a0L d ps k)) (avOk d ps) [] o (fun k hk h1 => ?_) (fun k hk h1 => ?_) ?_
    · have hl := a0L_len d ps k (by omega)
      have hps : nsAt ps k ≤ 9223372036854775807 := by rw [← ns_at hk]; exact hp _ (List.getElem_mem hk)
      try dsimp only
      rw [dt (show (k : Int) < (ps.length : Int) by omega), cond_true, nsAt_get hk, wrap_ok (z := d.1 - 1) (by omega), wrap_ok (z := 50 * (d.1 - 1)) (by omega), wrap_ok (z := d.2.1 - 1) (by omega), wrap_ok (z := 50 * (d.2.1 - 1)) (by omega), wrap_ok (z := (k : Int) + 1) (by omega), a0L_succ d ps k hk]
      simp only [Option.bind_some]
      unfold a0P
      by_cases h2 : nsAt ps k ≠ -1
      · obtain ⟨h3, h4⟩ := hok k hk h1 h2
        obtain ⟨⟨hx0, hx1⟩, ⟨hy0, hy1⟩, _⟩ := tile_xy hd h3.1 h3.2
        rw [dt h2, cond_true, tk_spec d _ hps, if_pos h2]
        simp only [Option.bind_some]
        rw [df (by omega), cond_false, grem_nn h3.1 (by omega), gdiv_nn h3.1 (by omega) (by omega)]
        simp only [Option.bind_some]
        rw [wrap_ok (z := 100 * (nsAt ps k % d.1)) (by omega), wrap_ok (z := 100 * (nsAt ps k / d.1)) (by omega), gapp16' (by simp only [List.length_cons, List.length_nil]; omega)]; rfl
      · rw [df h2, cond_false, if_neg h2, gapp16' (by simp only [List.length_cons, List.length_nil]; omega)]; rfl
    · have hps : nsAt ps k ≤ 9223372036854775807 := by rw [← ns_at hk]; exact hp _ (List.getElem_mem hk)
      have h1 := of_decide_eq_false h1
      try dsimp only
      rw [dt (show (k : Int) < (ps.length : Int) by omega), cond_true, nsAt_get hk]
      simp only [Option.bind_some]
      rw [dt (show nsAt ps k ≠ -1 from fun e => h1 (Or.inl e)), cond_true, tk_spec d _ hps]
      simp only [Option.bind_some]
      rw [dt (show tk d (nsAt ps k) < 0 by omega)]; rfl
    · try dsimp only
      rw [df (by omega), cond_false]
      exact (Option.map_eq_some_iff).2 ⟨_, o1, rfl⟩
  · refine loop_all ps.length (fun k => (a0L d ps k, (k : Int))) (avOk d ps) [] o (fun k hk h1 => ?_) (fun k hk h1 => ?_) ?_
    · have hl := a0L_len d ps k (by omega)
      try dsimp only
      rw [dt (show (k : Int) < (ps.length : Int) by omega), cond_true, nsAt_get hk, wrap_ok (z := d.1 - 1) (by omega), wrap_ok (z := 50 * (d.1 - 1)) (by omega), wrap_ok (z := d.2.1 - 1) (by omega), wrap_ok (z := 50 * (d.2.1 - 1)) (by omega), wrap_ok (z := (k : Int) + 1) (by omega), a0L_succ d ps k hk]
      simp only [Option.bind_some]
      unfold a0P
      by_cases h2 : nsAt ps k ≠ -1
      · obtain ⟨h3, h4⟩ := hok k hk h1 h2
        obtain ⟨⟨hx0, hx1⟩, ⟨hy0, hy1⟩, _⟩ := tile_xy hd h3.1 h3.2
        rw [dt h2, cond_true, tileOk_impl, if_pos h2]
        simp only [Option.bind_some]
        rw [dt ⟨hd, h3⟩, Bool.not_true, cond_false, df h2, cond_false, grem_nn h3.1 (by omega), gdiv_nn h3.1 (by omega) (by omega)]
        simp only [Option.bind_some]
        rw [wrap_ok (z := 100 * (nsAt ps k % d.1)) (by omega), wrap_ok (z := 100 * (nsAt ps k / d.1)) (by omega), gapp16' (by simp only [List.length_cons, List.length_nil]; omega)]; rfl
      · rw [df h2, cond_false, if_neg h2, dt (show nsAt ps k = -1 from Decidable.byContradiction h2), cond_true, gapp16' (by simp only [List.length_cons, List.length_nil]; omega)]; rfl
    · have h1 := of_decide_eq_false h1
      try dsimp only
      rw [dt (show (k : Int) < (ps.length : Int) by omega), cond_true, nsAt_get hk]
      simp only [Option.bind_some]
      rw [dt (show nsAt ps k ≠ -1 from fun e => h1 (Or.inl e)), cond_true, tileOk_impl]
      simp only [Option.bind_some]
      rw [df (show ¬ (DOk d ∧ 0 ≤ nsAt ps k ∧ nsAt ps k < d.1 * d.2.1) from fun e => h1 (Or.inr (by unfold tk; rw [if_pos e]; exact tkp_ge d _)))]; rfl
    · try dsimp only
      rw [df (by omega), cond_false]
      exact (Option.map_eq_some_iff).2 ⟨_, o2, rfl⟩
end Go.Pf
