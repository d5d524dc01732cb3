/-
  Own work. Cheapest paths, plainly: both sides walk back along the same nodes.
-/
import Derived.Test.YtjpkedhcbnklmaaDsd
namespace Go.Pf
open Go Go.Pu
set_option linter.unusedVariables false

theorem least (p : Nat → Prop) [DecidablePred p] : ∀ n, p n → ∃ k, k ≤ n ∧ p k ∧ ∀ i, i < k → ¬ p i := by
  intro n
  induction n using Nat.strongRecOn with
  | ind n ih =>
    intro h
    by_cases q : ∃ i, i < n ∧ p i
    · obtain ⟨i, hi, hp⟩ := q
      obtain ⟨k, h1, h2, h3⟩ := ih i hi hp
      exact ⟨k, by omega, h2, h3⟩
    · exact ⟨n, Nat.le_refl _, h, fun i hi hp => q ⟨i, hi, hp⟩⟩
theorem nodup_le : ∀ (N : Nat) (xs : List Int), xs.Nodup → (∀ x ∈ xs, 0 ≤ x ∧ x < (N : Int)) → xs.length ≤ N
  | 0, xs, _, h => by
    cases xs with
    | nil => simp
    | cons a r => have := h a (by simp); omega
  | N + 1, xs, hn, h => by
    have h1 := nodup_le N (xs.erase (N : Int)) (hn.erase _) (fun x hx => by
      have := (List.Nodup.mem_erase_iff hn).1 hx
      have := h x this.2
      omega)
    have h2 := List.length_erase (a := (N : Int)) (l := xs)
    split at h2 <;> omega
def okU (cs D : List Int) (v : Nat) (u : Int) : Prop := 0 ≤ nsAt D u.toNat ∧ nsAt D u.toNat + nsAt cs v = nsAt D v
instance (cs D : List Int) (v : Nat) (u : Int) : Decidable (okU cs D v u) := by unfold okU; exact inferInstance
theorem pred_ex {N : Nat} {G : List (List Int)} {cs ss D : List Int} (h : IsDist N G cs ss D) {v : Nat} (hv : v < N) (h0 : 0 < nsAt D v) : ∃ k, k < (gAt G v).length ∧ okU cs D v (nsAt (gAt G v) k) ∧ ∀ i, i < k → ¬ okU cs D v (nsAt (gAt G v) i) := by
  rcases h.1.2.2 v hv (by omega) with e | ⟨u, hu, hm, g0, g1⟩
  · omega
  · have hsat := h.2.2 u v hu hv hm g0
    unfold Sat at hsat
    obtain ⟨j, hj, ej⟩ := nsAt_mem hm
    obtain ⟨k, h1, h2, h3⟩ := least (fun k => okU cs D v (nsAt (gAt G v) k)) j (by
      unfold okU; rw [ej, Int.toNat_natCast]; omega)
    exact ⟨k, by omega, h2, h3⟩
noncomputable def pthS (G : List (List Int)) (cs D : List Int) (v2 : Int × List Int) : Option ((Int × List Int) ⊕ List Int) :=
    (gget 0 D v2.1).bind fun v3 =>
    let v4 : Bool := decide (0 < v3)
    bif v4 then (
      joinO (
        Pu.loop (fun (v5 : (Int × Int)) =>
          (gget [] G v2.1).bind fun v6 =>
          let v7 : Int := ((v6).length : Int)
          let v8 : Bool := decide (v5.2 < v7)
          bif v8 then (
            let v9 : Bool := decide (v5.1 < 0)
            bif v9 then (
              (gget [] G v2.1).bind fun v10 =>
              (gget 0 v10 v5.2).bind fun v11 =>
              (gget 0 D v11).bind fun v12 =>
              let v13 : Bool := decide (0 ≤ v12)
              bif v13 then (
                (gget 0 D v11).bind fun v14 =>
                (gget 0 cs v2.1).bind fun v15 =>
                let v16 : Int := wrap .i64 (v14 + v15)
                (gget 0 D v2.1).bind fun v17 =>
                let v18 : Bool := decide (v16 = v17)
                bif v18 then (
                  let v19 : Int := wrap .i64 (v5.2 + 1)
                  some (.inl (v11, v19))) else
                let v19 : Int := wrap .i64 (v5.2 + 1)
                some (.inl (v5.1, v19))) else
              let v14 : Int := wrap .i64 (v5.2 + 1)
              some (.inl (v5.1, v14))) else
            Option.map Sum.inr (
              some (.inl v5.1))) else
          Option.map Sum.inr (
            some (.inl v5.1))) ((-1), 0)) (fun (v5 : Int) =>
        let v6 : List Int := [v5]
        (gapp 8 v2.2 v6).bind fun v7 =>
        some (.inl (v5, v7)))) else
    Option.map Sum.inr (
      let v5 : Int := ((v2.2).length : Int)
      let v6 : Int := wrap .i64 (v5 - 1)
      Pu.loop (revF v2.2) (v6, ([] : List Int)))
noncomputable def pthI (G : List (List Int)) (cs ss D : List Int) (v10 : Int × List Int) : Option ((Int × List Int) ⊕ List Int) :=
    (impl_hasInt (ss, v10.1)).bind fun v11 =>
    let v12 : Bool := !v11
    bif v12 then (
      (gget [] G v10.1).bind fun v13 =>
      let v14 : Int := ((v13).length : Int)
      joinO (
        Pu.loop (fun (v15 : Int) =>
          let v16 : Bool := decide (v15 < v14)
          bif v16 then (
            (gget 0 v13 v15).bind fun v17 =>
            (gin (D).length v17).bind fun _ =>
            (gget 0 D v17).bind fun v19 =>
            let v20 : Bool := decide (v19 ≠ (-1))
            bif v20 then (
              (gin (D).length v17).bind fun _ =>
              (gget 0 D v17).bind fun v22 =>
              (gget 0 cs v10.1).bind fun v23 =>
              let v24 : Int := wrap .i64 (v22 + v23)
              (gin (D).length v10.1).bind fun _ =>
              (gget 0 D v10.1).bind fun v26 =>
              let v27 : Bool := decide (v24 = v26)
              bif v27 then (
                Option.map Sum.inr (
                  some (.inl v17))) else
              let v28 : Int := wrap .i64 (v15 + 1)
              some (.inl v28)) else
            let v21 : Int := wrap .i64 (v15 + 1)
            some (.inl v21)) else
          Option.map Sum.inr (
            some (.inl v10.1))) 0) (fun (v15 : Int) =>
        let v16 : List Int := [v15]
        (gapp 8 v16 v10.2).bind fun v17 =>
        some (.inl (v15, v17)))) else
    Option.map Sum.inr (
      some v10.2)
/-- The walk back from v: the nodes before it. -/
theorem path_both {N : Nat} {G : List (List Int)} {cs ss D : List Int} (hG : GrOk N G) (hc : CsOk N cs) (h : IsDist N G cs ss D) (hss : ∀ s ∈ ss, 0 ≤ s ∧ s < (N : Int)) (hsl : ss.length ≤ 1048576) : ∀ (m : Nat) (v : Nat), v < N → nsAt D v = (m : Int) →
    ∃ ps : List Int, ((ps ++ [(v : Int)]).Pairwise fun x y => nsAt D x.toNat < nsAt D y.toNat) ∧ (∀ x ∈ ps, (0 ≤ x ∧ x < (N : Int)) ∧ 0 ≤ nsAt D x.toNat ∧ nsAt D x.toNat < nsAt D v) ∧
    (∀ acc : List Int, acc.length + m ≤ 200000000 → (acc.length + m : Nat) ≤ 200000000 → loop (pthI G cs ss D) ((v : Int), acc) = some (ps ++ acc)) ∧
    (∃ w, ps ++ [(v : Int)] = w) ∧
    (∀ acc : List Int, acc.length + m ≤ 200000000 → ∃ full : List Int, loop (pthS G cs D) ((v : Int), acc) = loop (pthS G cs D) (((ps ++ [(v : Int)]).headD 0), acc ++ ps.reverse) ∧ nsAt D ((ps ++ [(v : Int)]).headD 0).toNat = 0 ∧ (0 ≤ (ps ++ [(v : Int)]).headD 0 ∧ (ps ++ [(v : Int)]).headD 0 < (N : Int))) := by
  intro m
  induction m using Nat.strongRecOn with
  | ind m ih =>
    intro v hv e
    have hDl := h.1.1
    have hGl := hG.1
    have hcl := hc.1
    by_cases hm0 : m = 0
    · subst hm0
      have hst : (v : Int) ∈ ss := by
        rcases h.1.2.2 v hv (by omega) with e2 | ⟨u, hu, hm, g0, g1⟩
        · exact e2.1
        · have := hc.2 v hv; omega
      refine ⟨[], by simp, by simp, fun acc hacc _ => ?_, ⟨_, rfl⟩, fun acc hacc => ⟨[], ?_, ?_, ?_⟩⟩
      · rw [loop_eq]
        unfold pthI
        rw [has_impl _ _ (by omega)]
        simp only [Option.bind_some]
        rw [dt hst]; rfl
      · simp
      · simp; exact e
      · simp; exact hv
    · have hD0 : 0 < nsAt D v := by omega
      obtain ⟨k, hk, hok, hmin⟩ := pred_ex h hv hD0
      have hgv := hG.2.2 v hv
      have hmem : nsAt (gAt G v) k ∈ gAt G v := by rw [← ns_at hk]; exact List.getElem_mem hk
      have hur := hgv.2 _ hmem
      have hcv := hc.2 v hv
      have bv := h.1.bound hG hv
      have hbu : ∀ i, i < (gAt G v).length → ∃ u : Nat, nsAt (gAt G v) i = (u : Int) ∧ u < N ∧ -1 ≤ nsAt D u ∧ nsAt D u ≤ 82800000 := by
        intro i hi
        have hmem : nsAt (gAt G v) i ∈ gAt G v := by rw [← ns_at hi]; exact List.getElem_mem hi
        have hur := hgv.2 _ hmem
        have := h.1.bound hG (v := (nsAt (gAt G v) i).toNat) (by omega)
        exact ⟨(nsAt (gAt G v) i).toNat, by omega, by omega, this.1, this.2⟩
      obtain ⟨u, hu⟩ : ∃ u : Nat, nsAt (gAt G v) k = (u : Int) := ⟨(nsAt (gAt G v) k).toNat, by omega⟩
      have huN : u < N := by omega
      have hok2 := hok
      unfold okU at hok
      rw [hu, Int.toNat_natCast] at hok
      obtain ⟨n, hn⟩ : ∃ n : Nat, nsAt D u = (n : Int) := ⟨(nsAt D u).toNat, by omega⟩
      have hnst : (v : Int) ∉ ss := fun q => by
        have := h.2.1 _ q
        rw [Int.toNat_natCast] at this
        omega
      obtain ⟨ps, p1, p2, p3, _, p5⟩ := ih n (by omega) u huN hn
      have headE : (ps ++ [(u : Int)] ++ [(v : Int)]).headD 0 = (ps ++ [(u : Int)]).headD 0 := by cases ps <;> rfl
      refine ⟨ps ++ [(u : Int)], ?_, fun x hx => ?_, fun acc hacc _ => ?_, ⟨_, rfl⟩, fun acc hacc => ?_⟩
      · rw [List.pairwise_append]
        refine ⟨p1, by simp, fun x hx y hy => ?_⟩
        have hy := List.mem_singleton.1 hy
        subst hy
        rw [Int.toNat_natCast]
        rcases List.mem_append.1 hx with q | q
        · have := (p2 x q).2; omega
        · have hq := List.mem_singleton.1 q
          subst hq
          rw [Int.toNat_natCast]; omega
      · rcases List.mem_append.1 hx with q | q
        · have := p2 x q; omega
        · have hq := List.mem_singleton.1 q
          subst hq
          rw [Int.toNat_natCast]; omega
      · rw [loop_eq]
        have estep : pthI G cs ss D ((v : Int), acc) = some (.inl ((u : Int), (u : Int) :: acc)) := by
          unfold pthI
          rw [has_impl _ _ (by omega)]
          simp only [Option.bind_some]
          rw [df hnst, Bool.not_false, cond_true, gAt_get (by omega)]
          simp only [Option.bind_some]
          have inner : Pu.loop (fun (v15 : Int) =>
              let v16 : Bool := decide (v15 < ((gAt G v).length : Int))
              bif v16 then (
                (gget 0 (gAt G v) v15).bind fun v17 =>
                (gin (D).length v17).bind fun _ =>
                (gget 0 D v17).bind fun v19 =>
                let v20 : Bool := decide (v19 ≠ (-1))
                bif v20 then (
                  (gin (D).length v17).bind fun _ =>
                  (gget 0 D v17).bind fun v22 =>
                  (gget 0 cs (v : Int)).bind fun v23 =>
                  let v24 : Int := wrap .i64 (v22 + v23)
                  (gin (D).length (v : Int)).bind fun _ =>
                  (gget 0 D (v : Int)).bind fun v26 =>
                  let v27 : Bool := decide (v24 = v26)
                  bif v27 then (
                    Option.map Sum.inr (
                      some (.inl v17))) else
                  let v28 : Int := wrap .i64 (v15 + 1)
                  some (.inl v28)) else
                let v21 : Int := wrap .i64 (v15 + 1)
                some (.inl v21)) else
              Option.map Sum.inr (
                some (.inl (v : Int)))) 0 = some ((.inl (u : Int)) : Int ⊕ ((Int × List Int) ⊕ List Int)) := by
            refine loop_upto k (fun i => (i : Int)) (fun i hi => ?_) ?_
            · obtain ⟨w, hw, hwN, b1, b2⟩ := hbu i (by omega)
              have hno := hmin i hi
              unfold okU at hno
              rw [hw, Int.toNat_natCast] at hno
              try dsimp only
              rw [dt (show (i : Int) < ((gAt G v).length : Int) by omega), cond_true, nsAt_get (by omega)]
              simp only [Option.bind_some]
              rw [hw, gin_nat (by omega), nsAt_get (show w < D.length by omega)]
              simp only [Option.bind_some]
              rw [nsAt_get (show v < cs.length by omega), gin_nat (show v < D.length by omega), nsAt_get (show v < D.length by omega), wrap_ok (z := (i : Int) + 1) (by omega)]
              simp only [Option.bind_some]
              by_cases g : nsAt D w ≠ -1
              · rw [dt g, cond_true, wrap_ok (by omega), df (by omega), cond_false]; rfl
              · rw [df g, cond_false]; rfl
            · try dsimp only
              rw [dt (show (k : Int) < ((gAt G v).length : Int) by omega), cond_true, nsAt_get hk]
              simp only [Option.bind_some]
              rw [hu, gin_nat (by omega), nsAt_get (show u < D.length by omega)]
              simp only [Option.bind_some]
              rw [nsAt_get (show v < cs.length by omega), gin_nat (show v < D.length by omega), nsAt_get (show v < D.length by omega)]
              simp only [Option.bind_some]
              rw [dt (show nsAt D u ≠ -1 by omega), cond_true, wrap_ok (by omega), dt (by omega), cond_true]; rfl
          dsimp only at inner
          rw [inner, joinO_inl, gapp_ok (by simp only [List.length_cons, List.length_nil]; omega)]
          rfl
        rw [estep]
        simp only
        rw [p3 _ (by simp only [List.length_cons]; omega) (by simp only [List.length_cons]; omega)]
        simp
      · have estep : pthS G cs D ((v : Int), acc) = some (.inl ((u : Int), acc ++ [(u : Int)])) := by
          unfold pthS
          try dsimp only
          rw [nsAt_get (show v < D.length by omega)]
          simp only [Option.bind_some]
          rw [dt hD0, cond_true]
          refine Eq.trans (congrArg (fun o => joinO o _) (?_ : _ = some (.inl (u : Int)))) ?_
          · have hnext : ∀ z : Int, decide (z < 0) = false → z = (u : Int) → True := fun _ _ _ => trivial
            refine loop_upto (k + 1) (fun i => (if i ≤ k then (-1 : Int) else (u : Int), (i : Int))) (fun i hi => ?_) ?_
            · obtain ⟨w, hw, hwN, b1, b2⟩ := hbu i (by omega)
              try dsimp only
              rw [gAt_get (by omega)]
              simp only [Option.bind_some]
              rw [dt (show (i : Int) < ((gAt G v).length : Int) by omega), cond_true, if_pos (by omega), dt (by omega), cond_true, nsAt_get (by omega)]
              simp only [Option.bind_some]
              rw [hw, nsAt_get (show w < D.length by omega)]
              simp only [Option.bind_some]
              rw [nsAt_get (show v < cs.length by omega), wrap_ok (z := (i : Int) + 1) (by omega)]
              simp only [Option.bind_some]
              by_cases qi : i = k
              · subst qi
                have : w = u := by omega
                subst this
                rw [dt (by omega), cond_true, wrap_ok (by omega), dt (by omega), cond_true, if_neg (by omega)]; rfl
              · have hno := hmin i (by omega)
                unfold okU at hno
                rw [hw, Int.toNat_natCast] at hno
                rw [if_pos (show i + 1 ≤ k by omega)]
                by_cases g : 0 ≤ nsAt D w
                · rw [dt g, cond_true, wrap_ok (by omega), df (by omega), cond_false]; rfl
                · rw [df g, cond_false]; rfl
            · try dsimp only
              rw [gAt_get (by omega), if_neg (by omega), df (show ¬ (u : Int) < 0 by omega)]
              simp only [Option.bind_some]
              cases decide (((k + 1 : Nat) : Int) < ((gAt G v).length : Int)) <;> rfl
          · rw [joinO_inl, gapp_ok (by simp only [List.length_cons, List.length_nil]; omega)]
            rfl
        obtain ⟨_, q1, q2, q3⟩ := p5 (acc ++ [(u : Int)]) (by simp only [List.length_append, List.length_cons, List.length_nil]; omega)
        refine ⟨[], ?_, by rw [headE]; exact q2, by rw [headE]; exact q3⟩
        rw [loop_eq, estep]
        simp only
        rw [q1, headE]
        simp
/-- A cheapest path, found by both: its nodes differ, only the first is a start. -/
theorem path_full {N : Nat} {G : List (List Int)} {cs ss D : List Int} (hG : GrOk N G) (hc : CsOk N cs) (h : IsDist N G cs ss D) (hss : ∀ s ∈ ss, 0 ≤ s ∧ s < (N : Int)) (hsl : ss.length ≤ 1048576) {v : Nat} (hv : v < N) (h0 : 0 ≤ nsAt D v) :
    ∃ (a : Int) (t : List Int), spec_l33Path (G, (cs, (D, (v : Int)))) = some (a :: t) ∧ loop (pthI G cs ss D) ((v : Int), [(v : Int)]) = some (a :: t) ∧ (a :: t).Nodup ∧ (∀ x ∈ a :: t, 0 ≤ x ∧ x < (N : Int)) ∧ (∀ x ∈ t, x ∉ ss) := by
  obtain ⟨m, hm⟩ : ∃ m : Nat, nsAt D v = (m : Int) := ⟨(nsAt D v).toNat, by omega⟩
  have bv := h.1.bound hG hv
  obtain ⟨ps, p1, p2, p3, _, p5⟩ := path_both hG hc h hss hsl m v hv hm
  obtain ⟨_, q1, q2, q3⟩ := p5 [(v : Int)] (by simp only [List.length_cons, List.length_nil]; omega)
  have hDl := h.1.1
  have hnd : (ps ++ [(v : Int)]).Nodup := p1.imp (fun hq e => by subst e; omega)
  have hrange : ∀ x ∈ ps ++ [(v : Int)], 0 ≤ x ∧ x < (N : Int) := by
    intro x hx
    rcases List.mem_append.1 hx with q | q
    · exact (p2 x q).1
    · have := List.mem_singleton.1 q; omega
  have hlen := nodup_le N _ hnd hrange
  have hN := hG.2.1
  obtain ⟨a, t, hat⟩ : ∃ a t, ps ++ [(v : Int)] = a :: t := by
    cases ps with
    | nil => exact ⟨_, _, rfl⟩
    | cons a r => exact ⟨_, _, rfl⟩
  refine ⟨a, t, ?_, ?_, by rw [← hat]; exact hnd, by rw [← hat]; exact hrange, fun x hx hxs => ?_⟩
  · have eS : spec_l33Path (G, (cs, (D, (v : Int)))) = loop (pthS G cs D) ((v : Int), [(v : Int)]) := rfl
    rw [eS, q1, loop_eq]
    unfold pthS
    rw [hat] at q2 q3 hlen ⊢
    simp only [List.headD_cons] at q2 q3 ⊢
    obtain ⟨w, hw⟩ : ∃ w : Nat, a = (w : Int) := ⟨a.toNat, by omega⟩
    rw [hw, Int.toNat_natCast] at q2
    rw [hw, nsAt_get (show w < D.length by omega)]
    simp only [Option.bind_some]
    rw [df (show ¬ 0 < nsAt D w by omega), cond_false]
    have er : [(v : Int)] ++ ps.reverse = (a :: t).reverse := by rw [← hat]; simp
    rw [er]
    have hl : (a :: t).reverse.length = t.length + 1 := by simp
    simp only [List.length_cons] at hlen
    have hw2 : wrap .i64 (((a :: t).reverse.length : Int) - 1) = (((a :: t).reverse.length : Nat) : Int) - 1 := by rw [wrap_ok (by omega)]
    rw [hw2, rev_ok (a :: t).reverse (a :: t).reverse.length [] (Nat.le_refl _) (by omega) (by simp; omega), List.take_of_length_le (Nat.le_refl _), List.reverse_reverse, hw]
    rfl
  · rw [p3 [(v : Int)] (by simp only [List.length_cons, List.length_nil]; omega) (by simp only [List.length_cons, List.length_nil]; omega), hat]
  · rw [hat] at p1
    rw [List.pairwise_cons] at p1
    have h1 := p1.1 x hx
    have h2 := h.2.1 x hxs
    rw [hat] at q2
    simp only [List.headD_cons] at q2
    omega
theorem cheapest_impl {N : Nat} {G R : List (List Int)} {cs ss D : List Int} (hG : GrOk N G) (hc : CsOk N cs) (hD : impl_distances ((G, R), (cs, ss)) = some D) (h : IsDist N G cs ss D) (hss : ∀ s ∈ ss, 0 ≤ s ∧ s < (N : Int)) (hsl : ss.length ≤ 1048576) (tgt : Int) :
    impl_cheapestPath ((G, R), (cs, (ss, tgt))) = if (0 ≤ tgt ∧ tgt < (N : Int)) ∧ 0 ≤ nsAt D tgt.toNat then spec_l33Path (G, (cs, (D, tgt))) else some [] := by
  have hDl := h.1.1
  have hN := hG.2.1
  unfold impl_cheapestPath
  try dsimp only
  rw [hD]
  simp only [Option.bind_some]
  rw [wrap_ok (by omega), inR_impl]
  simp only [Option.bind_some]
  by_cases g : 0 ≤ tgt ∧ tgt < (N : Int)
  rotate_left
  · rw [df (by omega), if_neg (fun e => g e.1)]; rfl
  rw [dt (by omega), Bool.not_true, cond_false]
  obtain ⟨v, rfl⟩ : ∃ v : Nat, tgt = (v : Int) := ⟨tgt.toNat, by omega⟩
  have hv : v < N := by omega
  have bv := h.1.bound hG hv
  rw [gin_nat (by omega), nsAt_get (show v < D.length by omega), Int.toNat_natCast]
  simp only [Option.bind_some]
  by_cases g2 : nsAt D v = -1
  · rw [dt g2, if_neg (fun e => by omega)]; rfl
  rw [df g2, cond_false, if_pos ⟨g, by omega⟩]
  obtain ⟨a, t, e1, e2, _⟩ := path_full hG hc h hss hsl hv (by omega)
  rw [e1]
  exact e2
end Go.Pf

