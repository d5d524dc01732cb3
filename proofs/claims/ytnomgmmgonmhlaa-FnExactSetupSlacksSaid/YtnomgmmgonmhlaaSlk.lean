/-
  Own work. Slacks, plainly.
-/
import Derived.Test.YtnomgmmgonmhlaaSla
namespace Go.Pf
open Go Go.Pu
set_option linter.unusedVariables false

abbrev Pt := Int × Int
def skipP (D : List Int) (xs : List Exc) (i j : Int) (q : Pt) : Prop := D.getD q.1.toNat 0 < 0 ∨ cycP xs i j = 0
instance (D : List Int) (xs : List Exc) (i j : Int) (q : Pt) : Decidable (skipP D xs i j q) := by unfold skipP; exact inferInstance
def rT (val : Pt → Pt → Int → Int → Int) (D : List Int) (xs : List Exc) (i : Int) (p : Pt) (qs : List Pt) (R0 : List Int) : Nat → List Int
  | 0 => R0
  | j + 1 =>
    let R := rT val D xs i p qs R0 j
    let q := qs.getD j (0, 0)
    let v := val p q (D.getD q.1.toNat 0) (cycP xs i j)
    if skipP D xs i j q then R else R.set j (if v < R.getD j 0 then v else R.getD j 0)
def sT (D : List Int) (xs : List Exc) (i : Int) (qs : List Pt) (s0 : List Bool) : Nat → List Bool
  | 0 => s0
  | j + 1 => if skipP D xs i j (qs.getD j (0, 0)) then sT D xs i qs s0 j else (sT D xs i qs s0 j).set j true
def InvS (Q : Nat) (R : List Int) (sn : List Bool) : Prop := R.length = Q ∧ sn.length = Q ∧ ∀ j : Nat, sn[j]? = some false → R[j]? = some 1000000
theorem inv_step {val : Pt → Pt → Int → Int → Int} {D : List Int} {xs : List Exc} {i : Int} {p : Pt} {qs : List Pt} {R0 : List Int} {s0 : List Bool} {Q : Nat} (h : InvS Q R0 s0) (j : Nat) : j ≤ Q → InvS Q (rT val D xs i p qs R0 j) (sT D xs i qs s0 j) := by
  induction j with
  | zero => intro _; exact h
  | succ j ih =>
    intro hj
    obtain ⟨h1, h2, h3⟩ := ih (by omega)
    unfold rT sT
    simp only
    by_cases q : skipP D xs i j (qs.getD j (0, 0))
    · rw [if_pos q, if_pos q]; exact ⟨h1, h2, h3⟩
    · rw [if_neg q, if_neg q]
      refine ⟨by rw [List.length_set]; exact h1, by rw [List.length_set]; exact h2, fun k hk => ?_⟩
      by_cases hkj : k = j
      · subst hkj
        rw [List.getElem?_set_self (by omega)] at hk
        cases hk
      · rw [List.getElem?_set_ne (by omega)] at hk ⊢
        exact h3 k hk
def RR (val : Pt → Pt → Int → Int → Int) (Df : Nat → List Int) (xs : List Exc) (ps qs : List Pt) : Nat → List Int × List Bool
  | 0 => (List.replicate qs.length 1000000, List.replicate qs.length false)
  | i + 1 => (rT val (Df i) xs i (ps.getD i (0, 0)) qs (RR val Df xs ps qs i).1 qs.length, sT (Df i) xs i qs (RR val Df xs ps qs i).2 qs.length)
theorem RR_inv (val : Pt → Pt → Int → Int → Int) (Df : Nat → List Int) (xs : List Exc) (ps qs : List Pt) (i : Nat) : InvS qs.length (RR val Df xs ps qs i).1 (RR val Df xs ps qs i).2 := by
  induction i with
  | zero =>
    refine ⟨by simp [RR], by simp [RR], fun j hj => ?_⟩
    show (List.replicate qs.length (1000000 : Int))[j]? = _
    rcases Nat.lt_or_ge j qs.length with h | h
    · rw [List.getElem?_replicate, if_pos h]
    · have : (List.replicate qs.length false)[j]? = none := List.getElem?_eq_none (by simp; omega)
      have hj' : (List.replicate qs.length false)[j]? = some false := hj
      rw [this] at hj'; cases hj'
  | succ i ih => exact inv_step ih _ (Nat.le_refl _)
theorem pt_at {ps : List Pt} {i : Nat} (h : i < ps.length) : ps[i] = ps.getD i (0, 0) := by rw [List.getD, List.getElem?_eq_getElem h]; rfl
def valS (per : Int) (p q : Pt) (x c : Int) : Int :=
  if 0 < per then wrap .i64 (wrap .i64 (c * per) - wrap .i64 (wrap .i64 (p.2 + x) - q.2)) else wrap .i64 (wrap .i64 (p.2 + x) - q.2)
def Dfs (g : TG) (ps : List Pt) (per : Int) (i : Nat) : List Int := dD g.2 (ps.getD i (0, 0)).1 (!decide (per = 0)) g.1.toNat
theorem fill_spec (n : Nat) (hn : n ≤ 1000) {ω : Type} (k : List Int → Option ω) {o : ω} (hk : k (List.replicate n 1000000) = some o) : Pu.loop (fun (v1 : (Int × List Int)) =>
    bif decide (v1.1 < (n : Int)) then (
      (gapp 8 v1.2 [1000000]).bind fun v5 =>
      some (.inl (wrap .i64 (v1.1 + 1), v5))) else
    Option.map Sum.inr (k v1.2)) (0, ([] : List Int)) = some o := by
  refine loop_upto n (fun j => ((j : Int), List.replicate j 1000000)) (fun j hj => ?_) ?_
  · dsimp only
    rw [dt (by omega), cond_true, gapp_some (by simp; omega) (by simp; omega)]
    simp only [Option.bind_some]
    rw [wrap_ok (by omega), List.replicate_succ']; rfl
  · dsimp only
    rw [df (by omega), cond_false, hk]; rfl
theorem slacks_spec (g : TG) (h : timP g = true) (ps qs : List Pt) (xs : List Exc) (per : Int) (hper : per = 0 ∨ 0 < per) (hps : ∀ p ∈ ps, ptP g.1 p = true) (hqs : ∀ p ∈ qs, ptP g.1 p = true) (hpl : ps.length ≤ 100) (hql : qs.length ≤ 100) (hxl : xs.length ≤ 50) :
    spec_l36Slacks (g, (ps, (qs, (xs, per)))) = some (RR (valS per) (Dfs g ps per) xs ps qs ps.length).1 := by
  have hn := (timP_len h).1
  unfold spec_l36Slacks
  dsimp only
  refine fill_spec qs.length (by omega) (fun R0 => Pu.loop _ (0, R0)) ?_
  refine loop_upto ps.length (fun i => ((i : Int), (RR (valS per) (Dfs g ps per) xs ps qs i).1)) (fun i hi => ?_) ?_
  · dsimp only
    rw [dt (by omega), cond_true, gget_nat hi]
    simp only [Option.bind_some]
    rw [delays_spec g h, pt_at hi]
    simp only [Option.bind_some]
    have hD : (Dfs g ps per i).length = g.1.toNat := dD_len _ _ _ _
    have hinv := RR_inv (valS per) (Dfs g ps per) xs ps qs i
    have hDe : dD g.2 (ps.getD i (0, 0)).1 (!decide (per = 0)) g.1.toNat = Dfs g ps per i := rfl
    rw [hDe]
    generalize hR : RR (valS per) (Dfs g ps per) xs ps qs i = S at *
    have hnext : (RR (valS per) (Dfs g ps per) xs ps qs (i + 1)).1 = rT (valS per) (Dfs g ps per i) xs i (ps.getD i (0, 0)) qs S.1 qs.length := by rw [← hR]; rfl
    rw [hnext]
    generalize Dfs g ps per i = D at *
    refine loop_upto qs.length (fun j => ((j : Int), rT (valS per) D xs i (ps.getD i (0, 0)) qs S.1 j)) (fun j hj => ?_) ?_
    · have hq := of_decide_eq_true (hqs _ (List.getElem_mem hj))
      have hi2 := inv_step (val := valS per) (D := D) (xs := xs) (i := i) (p := ps.getD i (0, 0)) (qs := qs) hinv j (by omega)
      have hrl := hi2.1
      rw [pt_at hj] at hq
      dsimp only
      rw [dt (by omega), cond_true, cyc_spec xs _ _ hxl, gget_nat hj, pt_at hj]
      simp only [Option.bind_some]
      rw [gin_some hq.1.1 (by omega), gget_getD hq.1.1 (by omega), wrap_ok (z := (j : Int) + 1) (by omega)]
      simp only [Option.bind_some]
      have hstep : rT (valS per) D xs i (ps.getD i (0, 0)) qs S.1 (j + 1) = if skipP D xs i j (qs.getD j (0, 0)) then rT (valS per) D xs i (ps.getD i (0, 0)) qs S.1 j else (rT (valS per) D xs i (ps.getD i (0, 0)) qs S.1 j).set j (if valS per (ps.getD i (0, 0)) (qs.getD j (0, 0)) (D.getD (qs.getD j (0, 0)).1.toNat 0) (cycP xs i j) < (rT (valS per) D xs i (ps.getD i (0, 0)) qs S.1 j).getD j 0 then valS per (ps.getD i (0, 0)) (qs.getD j (0, 0)) (D.getD (qs.getD j (0, 0)).1.toNat 0) (cycP xs i j) else (rT (valS per) D xs i (ps.getD i (0, 0)) qs S.1 j).getD j 0) := rfl
      rw [hstep]
      generalize rT (valS per) D xs i (ps.getD i (0, 0)) qs S.1 j = R at *
      by_cases q1 : D.getD (qs.getD j (0, 0)).1.toNat 0 < 0
      · rw [dt q1, if_pos (show skipP D xs i j (qs.getD j (0, 0)) from Or.inl q1)]; rfl
      rw [df q1, cond_false]
      by_cases q2 : cycP xs i j = 0
      · rw [dt q2, if_pos (show skipP D xs i j (qs.getD j (0, 0)) from Or.inr q2)]; rfl
      rw [df q2, cond_false, if_neg (show ¬ skipP D xs i j (qs.getD j (0, 0)) from fun e => e.elim q1 q2)]
      rw [hrl, gin_nat hj, gget_some (xs := R) (i := (j : Int)) (by omega) (by omega)]
      simp only [Option.bind_some, Int.toNat_natCast]
      unfold valS
      by_cases q3 : 0 < per
      · rw [dt q3, if_pos q3, cond_true, gset_nat]; rfl
      · rw [df q3, if_neg q3, cond_false, gset_nat]; rfl
    · dsimp only
      rw [df (by omega), cond_false, wrap_ok (by omega)]; rfl
  · dsimp only
    rw [df (by omega), cond_false]; rfl
theorem fill_impl (n : Nat) (hn : n ≤ 1000) {ω : Type} (k : List Int → Option ω) {o : ω} (hk : k (List.replicate n 1000000) = some o) : Pu.loop (fun (v5 : (Int × List Int)) =>
    bif decide (v5.1 < (n : Int)) then (
      (gin (v5.2).length v5.1).bind fun _ =>
      (gget 0 v5.2 v5.1).bind fun v8 =>
      some (.inl (wrap .i64 (v5.1 + 1), gset v5.2 v5.1 1000000))) else
    Option.map Sum.inr (k v5.2)) (0, List.replicate n (0 : Int)) = some o := by
  have e0 : ((0 : Int), List.replicate n (0 : Int)) = (fun j : Nat => ((j : Int), List.replicate j (1000000 : Int) ++ List.replicate (n - j) 0)) 0 := by simp
  rw [e0]
  refine loop_upto n (fun j => ((j : Int), List.replicate j (1000000 : Int) ++ List.replicate (n - j) 0)) (fun j hj => ?_) ?_
  · have hl : (List.replicate j (1000000 : Int) ++ List.replicate (n - j) 0).length = n := by simp; omega
    dsimp only
    rw [dt (by omega), cond_true, hl, gin_nat hj, gget_some (by omega) (by omega), wrap_ok (by omega), gset_nat]
    simp only [Option.bind_some]
    congr 3
    obtain ⟨m, hm⟩ : ∃ m, n - j = m + 1 := ⟨n - j - 1, by omega⟩
    rw [List.set_append_right _ _ (by simp), hm, show n - (j + 1) = m from by omega, List.replicate_succ, List.replicate_succ']
    simp
  · dsimp only
    rw [df (by omega), cond_false]
    have : n - n = 0 := by omega
    rw [this]
    simp only [List.replicate_zero, List.append_nil]
    rw [hk]; rfl
theorem slacks_impl (g : TG) (h : timP g = true) (ps qs : List Pt) (xs : List Exc) (lng : Bool) (val : Pt → Pt → Int → Int → Int) (cl : Pt × (Pt × (Int × Int)) → Option Int)
    (Df : Nat → List Int) (hDf : ∀ i, i < ps.length → Df i = dD g.2 (ps.getD i (0, 0)).1 lng g.1.toNat)
    (hcl : ∀ p q x c, (0 ≤ p.2 ∧ p.2 ≤ 50) → (0 ≤ q.2 ∧ q.2 ≤ 50) → (0 ≤ x ∧ x ≤ 50000) → (0 ≤ c ∧ c ≤ 8) → cl (p, (q, (x, c))) = some (val p q x c) ∧ val p q x c < 1000000)
    (hps : ∀ p ∈ ps, ptP g.1 p = true) (hqs : ∀ p ∈ qs, ptP g.1 p = true) (hpl : ps.length ≤ 100) (hql : qs.length ≤ 100) (hx : excsP xs = true) :
  ((impl_arcsInto g).bind fun v1 =>
  (gmake 8 (0 : Int) (qs.length : Int)).bind fun v3 =>
  let v4 : Int := ((v3).length : Int)
  Pu.loop (fun (v5 : (Int × List Int)) =>
    let v6 : Bool := decide (v5.1 < v4)
    bif v6 then (
      (gin (v5.2).length v5.1).bind fun _ =>
      (gget 0 v5.2 v5.1).bind fun v8 =>
      let v9 : Int := 1000000
      let v10 : List Int := gset v5.2 v5.1 v9
      let v11 : Int := wrap .i64 (v5.1 + 1)
      some (.inl (v11, v10))) else
    Option.map Sum.inr (
      let v7 : Int := (qs.length : Int)
      (gmake 1 (false : Bool) v7).bind fun v8 =>
      let v9 : Int := (ps.length : Int)
      Pu.loop (fun (v10 : (Int × (List Int × List Bool))) =>
        let v11 : Bool := decide (v10.1 < v9)
        bif v11 then (
          (gget (0, 0) ps v10.1).bind fun v12 =>
          (impl_delaysFrom (v1, (v12.1, lng))).bind fun v13 =>
          let v14 : Int := (qs.length : Int)
          Pu.loop (fun (v15 : (Int × (List Int × List Bool))) =>
            let v16 : Bool := decide (v15.1 < v14)
            bif v16 then (
              (gget (0, 0) qs v15.1).bind fun v17 =>
              (impl_cyclesOf (xs, (v10.1, v15.1))).bind fun v18 =>
              (gin (v13).length v17.1).bind fun _ =>
              (gget 0 v13 v17.1).bind fun v20 =>
              let v21 : Bool := decide (v20 < 0)
              bif v21 then (
                let v22 : Int := wrap .i64 (v15.1 + 1)
                some (.inl (v22, v15.2))) else
              let v22 : Bool := decide (v18 = 0)
              bif v22 then (
                let v23 : Int := wrap .i64 (v15.1 + 1)
                some (.inl (v23, v15.2))) else
              (gin (v13).length v17.1).bind fun _ =>
              (gget 0 v13 v17.1).bind fun v24 =>
              (cl (v12, (v17, (v24, v18)))).bind fun v25 =>
              (gin (v15.2.2).length v15.1).bind fun _ =>
              (gget false v15.2.2 v15.1).bind fun v27 =>
              let v28 : Bool := !v27
              bif v28 then (
                (gin (v15.2.1).length v15.1).bind fun _ =>
                (gget 0 v15.2.1 v15.1).bind fun v30 =>
                let v31 : Int := v25
                let v32 : List Int := gset v15.2.1 v15.1 v31
                (gin (v15.2.2).length v15.1).bind fun _ =>
                (gget false v15.2.2 v15.1).bind fun v34 =>
                let v35 : Bool := true
                let v36 : List Bool := gset v15.2.2 v15.1 v35
                let v37 : Int := wrap .i64 (v15.1 + 1)
                some (.inl (v37, (v32, v36)))) else
              (gin (v15.2.1).length v15.1).bind fun _ =>
              (gget 0 v15.2.1 v15.1).bind fun v30 =>
              let v31 : Bool := decide (v25 < v30)
              bif v31 then (
                (gin (v15.2.1).length v15.1).bind fun _ =>
                (gget 0 v15.2.1 v15.1).bind fun v33 =>
                let v34 : Int := v25
                let v35 : List Int := gset v15.2.1 v15.1 v34
                (gin (v15.2.2).length v15.1).bind fun _ =>
                (gget false v15.2.2 v15.1).bind fun v37 =>
                let v38 : Bool := true
                let v39 : List Bool := gset v15.2.2 v15.1 v38
                let v40 : Int := wrap .i64 (v15.1 + 1)
                some (.inl (v40, (v35, v39)))) else
              (gin (v15.2.2).length v15.1).bind fun _ =>
              (gget false v15.2.2 v15.1).bind fun v33 =>
              let v34 : Bool := true
              let v35 : List Bool := gset v15.2.2 v15.1 v34
              let v36 : Int := wrap .i64 (v15.1 + 1)
              some (.inl (v36, (v15.2.1, v35)))) else
            Option.map Sum.inr (
              let v17 : Int := wrap .i64 (v10.1 + 1)
              some (.inl (v17, v15.2)))) (0, v10.2)) else
        Option.map Sum.inr (
          some v10.2.1)) (0, (v5.2, v8)))) (0, v3)) = some (RR val Df xs ps qs ps.length).1 := by
  have hn := (timP_len h).1
  have hxl : xs.length ≤ 50 := by
    unfold excsP at hx; rw [Bool.and_eq_true] at hx; exact of_decide_eq_true hx.1
  have hcyc : ∀ i j, 0 ≤ cycP xs i j ∧ cycP xs i j ≤ 8 := by
    intro i j
    unfold cycP
    cases hf : (List.range xs.length).find? (fun k => decide ((xs.getD k (0, (0, 0))).1 = i ∧ (xs.getD k (0, (0, 0))).2.1 = j)) with
    | none => simp
    | some k =>
      have hk := List.mem_range.1 (List.mem_of_find?_eq_some hf)
      unfold excsP at hx
      rw [Bool.and_eq_true, List.all_eq_true] at hx
      have := of_decide_eq_true (hx.2 _ (List.getElem_mem hk))
      rw [xs_at hk] at this
      exact this.2.2
  rw [arcs_impl g h, gmake_nat (by omega) (by omega)]
  simp only [Option.bind_some, List.length_replicate]
  refine fill_impl qs.length (by omega) (fun R0 => (gmake 1 (false : Bool) (qs.length : Int)).bind fun v8 => Pu.loop _ (0, (R0, v8))) ?_
  try dsimp only
  rw [gmake_nat (by omega) (by omega)]
  simp only [Option.bind_some]
  refine loop_upto ps.length (fun i => ((i : Int), RR val Df xs ps qs i)) (fun i hi => ?_) ?_
  · dsimp only
    rw [dt (by omega), cond_true, gget_nat hi]
    simp only [Option.bind_some]
    have hpp := of_decide_eq_true (hps _ (List.getElem_mem hi))
    rw [delays_impl g h, pt_at hi]
    rw [pt_at hi] at hpp
    simp only [Option.bind_some]
    rw [← hDf i hi]
    have hD : (Df i).length = g.1.toNat := by rw [hDf i hi]; exact dD_len _ _ _ _
    have hDb : ∀ k, k < g.1.toNat → (Df i).getD k 0 ≤ 50000 := by
      intro k hk
      rw [hDf i hi]
      have := dD_bound h (ps.getD i (0, 0)).1 lng g.1.toNat (by omega) k hk
      omega
    have hinv := RR_inv val Df xs ps qs i
    generalize hR : RR val Df xs ps qs i = S at *
    have hnext : RR val Df xs ps qs (i + 1) = (rT val (Df i) xs i (ps.getD i (0, 0)) qs S.1 qs.length, sT (Df i) xs i qs S.2 qs.length) := by rw [← hR]; rfl
    rw [hnext]
    generalize Df i = D at *
    refine loop_upto qs.length (fun j => ((j : Int), (rT val D xs i (ps.getD i (0, 0)) qs S.1 j, sT D xs i qs S.2 j))) (fun j hj => ?_) ?_
    · have hq := of_decide_eq_true (hqs _ (List.getElem_mem hj))
      have hi2 := inv_step (val := val) (D := D) (xs := xs) (i := i) (p := ps.getD i (0, 0)) (qs := qs) hinv j (by omega)
      rw [pt_at hj] at hq
      dsimp only
      rw [dt (by omega), cond_true, cyc_impl xs _ _ hxl, gget_nat hj, pt_at hj]
      simp only [Option.bind_some]
      rw [gin_some hq.1.1 (by omega), gget_getD hq.1.1 (by omega), wrap_ok (z := (j : Int) + 1) (by omega)]
      simp only [Option.bind_some]
      have hstep : rT val D xs i (ps.getD i (0, 0)) qs S.1 (j + 1) = if skipP D xs i j (qs.getD j (0, 0)) then rT val D xs i (ps.getD i (0, 0)) qs S.1 j else (rT val D xs i (ps.getD i (0, 0)) qs S.1 j).set j (if val (ps.getD i (0, 0)) (qs.getD j (0, 0)) (D.getD (qs.getD j (0, 0)).1.toNat 0) (cycP xs i j) < (rT val D xs i (ps.getD i (0, 0)) qs S.1 j).getD j 0 then val (ps.getD i (0, 0)) (qs.getD j (0, 0)) (D.getD (qs.getD j (0, 0)).1.toNat 0) (cycP xs i j) else (rT val D xs i (ps.getD i (0, 0)) qs S.1 j).getD j 0) := rfl
      have hstep2 : sT D xs i qs S.2 (j + 1) = if skipP D xs i j (qs.getD j (0, 0)) then sT D xs i qs S.2 j else (sT D xs i qs S.2 j).set j true := rfl
      rw [hstep, hstep2]
      generalize rT val D xs i (ps.getD i (0, 0)) qs S.1 j = R at *
      generalize sT D xs i qs S.2 j = sn at *
      obtain ⟨hrl, hsl, hrs⟩ := hi2
      by_cases q1 : D.getD (qs.getD j (0, 0)).1.toNat 0 < 0
      · rw [dt q1, if_pos (show skipP D xs i j (qs.getD j (0, 0)) from Or.inl q1), if_pos (show skipP D xs i j (qs.getD j (0, 0)) from Or.inl q1)]; rfl
      rw [df q1, cond_false]
      by_cases q2 : cycP xs i j = 0
      · rw [dt q2, if_pos (show skipP D xs i j (qs.getD j (0, 0)) from Or.inr q2), if_pos (show skipP D xs i j (qs.getD j (0, 0)) from Or.inr q2)]; rfl
      rw [df q2, cond_false, if_neg (show ¬ skipP D xs i j (qs.getD j (0, 0)) from fun e => e.elim q1 q2), if_neg (show ¬ skipP D xs i j (qs.getD j (0, 0)) from fun e => e.elim q1 q2)]
      obtain ⟨ecl, elt⟩ := hcl (ps.getD i (0, 0)) (qs.getD j (0, 0)) (D.getD (qs.getD j (0, 0)).1.toNat 0) (cycP xs i j) hpp.2 hq.2 ⟨by omega, hDb _ (by omega)⟩ (hcyc _ _)
      rw [ecl]
      simp only [Option.bind_some]
      generalize val (ps.getD i (0, 0)) (qs.getD j (0, 0)) (D.getD (qs.getD j (0, 0)).1.toNat 0) (cycP xs i j) = v at *
      have hjs : j < sn.length := by omega
      have hjr : j < R.length := by omega
      have hRj : R.getD j 0 = R[j] := by rw [List.getD, List.getElem?_eq_getElem hjr]; rfl
      rw [gin_nat hjs, gget_nat hjs, gin_nat hjr, gget_nat hjr]
      simp only [Option.bind_some]
      rw [gset_nat, gset_nat, hRj]
      cases hsn : sn[j] with
      | false =>
        have e1 := hrs j (by rw [List.getElem?_eq_getElem hjs, hsn])
        rw [List.getElem?_eq_getElem hjr] at e1
        have e2 : R[j] = 1000000 := Option.some.inj e1
        rw [e2, if_pos elt]; rfl
      | true =>
        by_cases q3 : v < R[j]
        · rw [dt q3, if_pos q3]; rfl
        · rw [df q3, if_neg q3]
          have e3 : R.set j R[j] = R := List.set_getElem_self hjr
          rw [e3]; rfl
    · dsimp only
      rw [df (by omega), cond_false, wrap_ok (by omega)]; rfl
  · dsimp only
    rw [df (by omega), cond_false]; rfl
end Go.Pf
