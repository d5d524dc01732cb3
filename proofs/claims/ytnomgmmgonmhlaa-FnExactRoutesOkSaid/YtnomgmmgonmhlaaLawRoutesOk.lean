/-
  Own work. The law, plainly: it says true.
-/
import Derived.Test.YtnomgmmgonmhlaaRok
import Derived.Test.YtnomgmmgonmhlaaMcs
import Derived.Test.YtnomgmmgonmhlaaLawConnsOk
namespace Go.Pf
open Go Go.Pu
set_option linter.unusedVariables false

noncomputable def rsoS (d : Dev) (ps : List Int) (cns : List Conn) (rs : List Rt) (v9 : Int × List Bool) : Option ((Int × List Bool) ⊕ Bool) :=
    let v10 : Int := ((cns).length : Int)
    let v11 : Bool := decide (v9.1 < v10)
    bif v11 then (
      (gget (0, ((0, 0), [])) cns v9.1).bind fun v12 =>
      (spec_SinkNodes (d, (ps, v12))).bind fun v13 =>
      let v14 : Int := ((v13).length : Int)
      let v15 : Bool := decide (v14 = 0)
      bif v15 then (
        Option.map Sum.inr (
          some false)) else
      (gget (0, ((0, 0), [])) cns v9.1).bind fun v16 =>
      (gget ([], []) rs v9.1).bind fun v17 =>
      (spec_SourceNode (d, (ps, v16))).bind fun v18 =>
      (spec_RouteOk (d, (v18, (v13, v17)))).bind fun v19 =>
      let v20 : Bool := !v19
      bif v20 then (
        Option.map Sum.inr (
          some false)) else
      Pu.loop (fun (v21 : (Int × List Bool)) =>
        (gget ([], []) rs v9.1).bind fun v22 =>
        let v23 : Int := ((v22.1).length : Int)
        let v24 : Bool := decide (v21.1 < v23)
        bif v24 then (
          (gget ([], []) rs v9.1).bind fun v25 =>
          (gget 0 v25.1 v21.1).bind fun v26 =>
          (gin (v21.2).length v26).bind fun _ =>
          (gget false v21.2 v26).bind fun v28 =>
          bif v28 then (
            Option.map Sum.inr (
              Option.map Sum.inr (
                some false))) else
          (gget ([], []) rs v9.1).bind fun v29 =>
          (gget 0 v29.1 v21.1).bind fun v30 =>
          (gin (v21.2).length v30).bind fun _ =>
          (gget false v21.2 v30).bind fun v32 =>
          let v33 : Bool := true
          let v34 : List Bool := gset v21.2 v30 v33
          let v35 : Int := wrap .i64 (v21.1 + 1)
          some (.inl (v35, v34))) else
        Option.map Sum.inr (
          let v25 : Int := wrap .i64 (v9.1 + 1)
          some (.inl (v25, v21.2)))) (0, v9.2)) else
    Option.map Sum.inr (
      some true)
noncomputable def rsoI (d : Dev) (ps : List Int) (cns : List Conn) (rs : List Rt) (v8 : Int × List (Int × Bool)) : Option ((Int × List (Int × Bool)) ⊕ Bool) :=
    let v9 : Bool := decide (v8.1 < (cns.length : Int))
    bif v9 then (
      (gget (0, ((0, 0), [])) cns v8.1).bind fun v10 =>
      (impl_SinkNodes (d, (ps, v10))).bind fun v11 =>
      (gnil true v11).bind fun v12 =>
      bif v12 then (
        Option.map Sum.inr (
          some false)) else
      (gget ([], []) rs v8.1).bind fun v13 =>
      (impl_SourceNode (d, (ps, v10))).bind fun v14 =>
      (impl_RouteOk (d, (v14, (v11, v13)))).bind fun v15 =>
      let v16 : Bool := !v15
      bif v16 then (
        Option.map Sum.inr (
          some false)) else
      (gget ([], []) rs v8.1).bind fun v17 =>
      let v18 : Int := ((v17.1).length : Int)
      Pu.loop (fun (v19 : (Int × List (Int × Bool))) =>
        let v20 : Bool := decide (v19.1 < v18)
        bif v20 then (
          (gget 0 v17.1 v19.1).bind fun v21 =>
          let v22 : Bool := mget v19.2 v21
          bif v22 then (
            Option.map Sum.inr (
              Option.map Sum.inr (
                some false))) else
          let v23 : List (Int × Bool) := mset v19.2 v21 true
          let v24 : Int := wrap .i64 (v19.1 + 1)
          some (.inl (v24, v23))) else
        Option.map Sum.inr (
          let v21 : Int := wrap .i64 (v8.1 + 1)
          some (.inl (v21, v19.2)))) (0, v8.2)) else
    Option.map Sum.inr (
      some true)
theorem src_node' {d : Dev} {ps : List Int} {p : Pin} (h : 0 ≤ srcP d ps p) : srcP d ps p ≤ 1000000 := by
  unfold srcP at *
  split at h
  rotate_left
  · omega
  rename_i q
  rw [if_pos q]
  unfold outPinP at *
  split at h
  rotate_left
  · omega
  rename_i q2
  rw [if_pos q2]
  have ho := outP_le (tk d (psAt ps p.1))
  obtain ⟨hd, t0, t1, _, q0, q1⟩ := tk_in (d := d) (t := psAt ps p.1) (ho.2.2 (by omega))
  omega
/-- The two sets of nodes agree. -/
def Corr (xs : List Int) (mp : List (Int × Bool)) : Prop := ∀ x, mget mp x = decide (x ∈ xs)
theorem rso_inner (N : Nat) (rs : List Rt) (k : Nat) (hk : k < rs.length) (ns : List Int) (hns : (rs[k]).1 = ns) (hr : ∀ x ∈ ns, 0 ≤ x ∧ x < (N : Int)) (hl : ns.length ≤ 1048576) (hkl : k ≤ 1048576) : ∀ (m j : Nat) (xs : List Int) (mp : List (Int × Bool)), j + m = ns.length → Corr xs mp →
    (Pu.loop (fun (v21 : (Int × List Bool)) =>
        (gget ([], []) rs (k : Int)).bind fun v22 =>
        let v23 : Int := ((v22.1).length : Int)
        let v24 : Bool := decide (v21.1 < v23)
        bif v24 then (
          (gget ([], []) rs (k : Int)).bind fun v25 =>
          (gget 0 v25.1 v21.1).bind fun v26 =>
          (gin (v21.2).length v26).bind fun _ =>
          (gget false v21.2 v26).bind fun v28 =>
          bif v28 then (
            Option.map Sum.inr (
              Option.map Sum.inr (
                some false))) else
          (gget ([], []) rs (k : Int)).bind fun v29 =>
          (gget 0 v29.1 v21.1).bind fun v30 =>
          (gin (v21.2).length v30).bind fun _ =>
          (gget false v21.2 v30).bind fun v32 =>
          let v33 : Bool := true
          let v34 : List Bool := gset v21.2 v30 v33
          let v35 : Int := wrap .i64 (v21.1 + 1)
          some (.inl (v35, v34))) else
        Option.map Sum.inr (
          let v25 : Int := wrap .i64 ((k : Int) + 1)
          some (.inl (v25, v21.2)))) ((j : Int), seenA N xs) = some ((.inr false) : (Int × List Bool) ⊕ Bool) ∧
      Pu.loop (fun (v19 : (Int × List (Int × Bool))) =>
        let v20 : Bool := decide (v19.1 < (ns.length : Int))
        bif v20 then (
          (gget 0 ns v19.1).bind fun v21 =>
          let v22 : Bool := mget v19.2 v21
          bif v22 then (
            Option.map Sum.inr (
              Option.map Sum.inr (
                some false))) else
          let v23 : List (Int × Bool) := mset v19.2 v21 true
          let v24 : Int := wrap .i64 (v19.1 + 1)
          some (.inl (v24, v23))) else
        Option.map Sum.inr (
          let v21 : Int := wrap .i64 ((k : Int) + 1)
          some (.inl (v21, v19.2)))) ((j : Int), mp) = some ((.inr false) : (Int × List (Int × Bool)) ⊕ Bool)) ∨
    ∃ xs' mp', Corr xs' mp' ∧ Pu.loop (fun (v21 : (Int × List Bool)) =>
        (gget ([], []) rs (k : Int)).bind fun v22 =>
        let v23 : Int := ((v22.1).length : Int)
        let v24 : Bool := decide (v21.1 < v23)
        bif v24 then (
          (gget ([], []) rs (k : Int)).bind fun v25 =>
          (gget 0 v25.1 v21.1).bind fun v26 =>
          (gin (v21.2).length v26).bind fun _ =>
          (gget false v21.2 v26).bind fun v28 =>
          bif v28 then (
            Option.map Sum.inr (
              Option.map Sum.inr (
                some false))) else
          (gget ([], []) rs (k : Int)).bind fun v29 =>
          (gget 0 v29.1 v21.1).bind fun v30 =>
          (gin (v21.2).length v30).bind fun _ =>
          (gget false v21.2 v30).bind fun v32 =>
          let v33 : Bool := true
          let v34 : List Bool := gset v21.2 v30 v33
          let v35 : Int := wrap .i64 (v21.1 + 1)
          some (.inl (v35, v34))) else
        Option.map Sum.inr (
          let v25 : Int := wrap .i64 ((k : Int) + 1)
          some (.inl (v25, v21.2)))) ((j : Int), seenA N xs) = some ((.inl (((k + 1 : Nat) : Int), seenA N xs')) : (Int × List Bool) ⊕ Bool) ∧
      Pu.loop (fun (v19 : (Int × List (Int × Bool))) =>
        let v20 : Bool := decide (v19.1 < (ns.length : Int))
        bif v20 then (
          (gget 0 ns v19.1).bind fun v21 =>
          let v22 : Bool := mget v19.2 v21
          bif v22 then (
            Option.map Sum.inr (
              Option.map Sum.inr (
                some false))) else
          let v23 : List (Int × Bool) := mset v19.2 v21 true
          let v24 : Int := wrap .i64 (v19.1 + 1)
          some (.inl (v24, v23))) else
        Option.map Sum.inr (
          let v21 : Int := wrap .i64 ((k : Int) + 1)
          some (.inl (v21, v19.2)))) ((j : Int), mp) = some ((.inl (((k + 1 : Nat) : Int), mp')) : (Int × List (Int × Bool)) ⊕ Bool) := by
  have hg : gget (([], []) : Rt) rs (k : Int) = some rs[k] := gget_nat hk
  simp only [hg, Option.bind_some, hns]
  intro m
  induction m with
  | zero =>
    intro j xs mp hj hc
    have hj : j = ns.length := by omega
    subst hj
    right
    refine ⟨xs, mp, hc, ?_, ?_⟩
    · rw [loop_eq]
      try dsimp only
      rw [df (show ¬ (ns.length : Int) < (ns.length : Int) by omega), cond_false, wrap_ok (by omega)]; rfl
    · rw [loop_eq]
      try dsimp only
      rw [df (show ¬ (ns.length : Int) < (ns.length : Int) by omega), cond_false, wrap_ok (by omega)]; rfl
  | succ m ih =>
    intro j xs mp hj hc
    have hjl : j < ns.length := by omega
    have hx := hr _ (List.getElem_mem hjl)
    rw [ns_at hjl] at hx
    obtain ⟨v, hv⟩ : ∃ v : Nat, nsAt ns j = (v : Int) := ⟨(nsAt ns j).toNat, by omega⟩
    have hvN : v < N := by omega
    rw [loop_eq]
    have e2 := fun (f : Int × List (Int × Bool) → Option ((Int × List (Int × Bool)) ⊕ ((Int × List (Int × Bool)) ⊕ Bool))) => loop_eq f ((j : Int), mp)
    rw [e2]
    try dsimp only
    rw [dt (show (j : Int) < (ns.length : Int) by omega), cond_true, cond_true, nsAt_get hjl]
    simp only [Option.bind_some]
    rw [hv, seenA_len, gin_nat hvN, seenA_get _ _ _ hvN, hc]
    simp only [Option.bind_some]
    by_cases q : (v : Int) ∈ xs
    · left
      rw [dt q]
      exact ⟨rfl, rfl⟩
    · rw [df q, cond_false, cond_false, seenA_set _ _ _ hvN, wrap_ok (by omega)]
      have hc2 : Corr (xs ++ [(v : Int)]) (mset mp (v : Int) true) := by
        intro x
        rw [mget_mset, hc]
        by_cases e : x = (v : Int)
        · rw [if_pos e, dt (by simp [e])]
        · rw [if_neg e, decide_eq_decide]; simp [e]
      exact ih (j + 1) (xs ++ [(v : Int)]) (mset mp (v : Int) true) (by omega) hc2
theorem rso_step (d : Dev) (ps : List Int) (cns : List Conn) (rs : List Rt) (hp : PsR ps) (hpl : ps.length ≤ 1048576) (hc : CnsOk cns) (hrs : RtsOk rs) (hlen : rs.length = cns.length) (N : Nat) (hN : rnN d = (N : Int)) (k : Nat) (hk : k < cns.length) (xs : List Int) (mp : List (Int × Bool)) (hx : Corr xs mp) :
    (rsoS d ps cns rs ((k : Int), seenA N xs) = some (.inr false) ∧ rsoI d ps cns rs ((k : Int), mp) = some (.inr false)) ∨
    ∃ xs' mp', Corr xs' mp' ∧ rsoS d ps cns rs ((k : Int), seenA N xs) = some (.inl (((k + 1 : Nat) : Int), seenA N xs')) ∧ rsoI d ps cns rs ((k : Int), mp) = some (.inl (((k + 1 : Nat) : Int), mp')) := by
  have hkr : k < rs.length := by omega
  have hcl := hc.1
  have hck := hc.2 _ (List.getElem_mem hk)
  unfold CnOk at hck
  have hrk := hrs.2 _ (List.getElem_mem hkr)
  have hsl := snks_len d ps (cns[k]).2.2
  have hgr : gget (([], []) : Rt) rs (k : Int) = some rs[k] := gget_nat hkr
  have hgc : gget ((0, ((0, 0), [])) : Conn) cns (k : Int) = some cns[k] := gget_nat hk
  have hsr : srcP d ps (cns[k]).2.1 ≤ 9223372036854775807 := by
    by_cases q : 0 ≤ srcP d ps (cns[k]).2.1
    · have := src_node' q
      omega
    · omega
  unfold rsoS rsoI
  try dsimp only
  rw [dt (show (k : Int) < (cns.length : Int) by omega), cond_true, cond_true, hgc]
  simp only [Option.bind_some]
  rw [snks_spec d ps _ hp hck, snks_impl d ps _ hp hpl hck]
  simp only [Option.bind_some]
  have eg : gnil true (snksP d ps (cns[k]).2.2) = some (decide (((snksP d ps (cns[k]).2.2).length : Int) = 0)) := by
    unfold gnil
    cases snksP d ps (cns[k]).2.2 with
    | nil => rfl
    | cons a r => simp; omega
  rw [eg]
  simp only [Option.bind_some]
  by_cases q0 : ((snksP d ps (cns[k]).2.2).length : Int) = 0
  · left
    rw [dt q0]
    exact ⟨rfl, rfl⟩
  rw [df q0, cond_false, cond_false, hgr, src_spec d ps _ hp, src_impl d ps _ hp hpl]
  simp only [Option.bind_some]
  generalize hrk2 : rs[k] = r at *
  obtain ⟨ns, pr⟩ := r
  rw [ro_spec d _ _ ns pr (by omega), ro_impl d _ _ ns pr (by omega) hsr]
  simp only [Option.bind_some]
  cases hro : roP d (srcP d ps (cns[k]).2.1) (snksP d ps (cns[k]).2.2) ns pr with
  | false => left; exact ⟨rfl, rfl⟩
  | true =>
    rw [Bool.not_true, cond_false, cond_false]
    have hall : ∀ x ∈ ns, 0 ≤ x ∧ x < (N : Int) := by
      unfold roP at hro
      split at hro
      rotate_left
      · simp at hro
      split at hro
      rotate_left
      · simp at hro
      rename_i _ ha
      intro x hx
      obtain ⟨j, hj, rfl⟩ := List.getElem_of_mem hx
      rw [ns_at hj]
      have := of_decide_eq_true (List.all_eq_true.1 ha j (List.mem_range.2 hj))
      have g1 := this.1
      have := g1.2.2.1
      refine ⟨g1.2.1, ?_⟩
      rw [← hN]; unfold rnN; rw [if_pos g1.1]; exact this
    have key := rso_inner N rs k hkr ns (by rw [hrk2]) hall (by have := hrk.1; simp only at this; omega) (by omega) ns.length 0 xs mp (by omega) hx
    simp only [hgr, Option.bind_some] at key
    exact key
theorem rso_both (d : Dev) (ps : List Int) (cns : List Conn) (rs : List Rt) (hp : PsR ps) (hpl : ps.length ≤ 1048576) (hc : CnsOk cns) (hrs : RtsOk rs) (hlen : rs.length = cns.length) (N : Nat) (hN : rnN d = (N : Int)) : ∀ (m k : Nat) (xs : List Int) (mp : List (Int × Bool)), k + m = cns.length → Corr xs mp →
    ∃ b, loop (rsoS d ps cns rs) ((k : Int), seenA N xs) = some b ∧ loop (rsoI d ps cns rs) ((k : Int), mp) = some b := by
  intro m
  induction m with
  | zero =>
    intro k xs mp hk _
    have hk : k = cns.length := by omega
    subst hk
    refine ⟨true, ?_, ?_⟩
    · rw [loop_eq]; unfold rsoS; dsimp only; rw [df (show ¬ (cns.length : Int) < (cns.length : Int) by omega)]; rfl
    · rw [loop_eq]; unfold rsoI; dsimp only; rw [df (show ¬ (cns.length : Int) < (cns.length : Int) by omega)]; rfl
  | succ m ih =>
    intro k xs mp hk hx
    rcases rso_step d ps cns rs hp hpl hc hrs hlen N hN k (by omega) xs mp hx with ⟨h1, h2⟩ | ⟨xs', mp', g, h1, h2⟩
    · exact ⟨_, by rw [loop_eq, h1], by rw [loop_eq, h2]⟩
    · obtain ⟨b, o1, o2⟩ := ih (k + 1) xs' mp' (by omega) g
      exact ⟨b, by rw [loop_eq, h1]; exact o1, by rw [loop_eq, h2]; exact o2⟩
theorem rso_ok (d : Dev) (ps : List Int) (cns : List Conn) (rs : List Rt) (hp : PsR ps) (hpl : ps.length ≤ 1048576) (hc : CnsOk cns) (hrs : RtsOk rs) : ∃ b, spec_RoutesOk (d, (ps, (cns, rs))) = some b ∧ impl_RoutesOk (d, (ps, (cns, rs))) = some b := by
  have hN := rnN_le d
  unfold spec_RoutesOk impl_RoutesOk
  try dsimp only
  rw [cns_spec, cns_impl]
  simp only [Option.bind_some]
  cases cnsP (ps.length : Int) cns with
  | false => exact ⟨false, rfl, rfl⟩
  | true =>
    rw [Bool.not_true, cond_false, cond_false]
    by_cases q : (rs.length : Int) ≠ (cns.length : Int)
    · rw [dt q]; exact ⟨false, rfl, rfl⟩
    rw [df q, cond_false, cond_false, routeNodes_spec]
    simp only [Option.bind_some]
    obtain ⟨N, hN2⟩ : ∃ N : Nat, rnN d = (N : Int) := ⟨(rnN d).toNat, by omega⟩
    have eN : (if DOk d then nodesN d else 0) = (N : Int) := hN2
    rw [eN, gmake_nat (by omega) (by omega), seenA_nil]
    simp only [Option.bind_some]
    exact rso_both d ps cns rs hp hpl hc hrs (by omega) N hN2 cns.length 0 [] [] (by omega) (fun x => by simp [mget])
theorem law_FnExactRoutesOk (x : ((Int × (Int × (Int × Int))) × (List Int × (List (Int × ((Int × Int) × List (Int × Int))) × List (List Int × List Int))))) (h : InR (tP (tP tI (tP tI (tP tI tI))) (tP (tS 0 tI) (tP (tS 0 (tP tI (tP (tP tI tI) (tS 0 (tP tI tI))))) (tS 0 (tP (tS 0 tI) (tS 0 tI)))))) x) : laws_FnExactRoutesOk x = some true := by
  obtain ⟨d, ps, cs, rs⟩ := x
  obtain ⟨_, ⟨_, hp⟩, ⟨hc, hcs⟩, ⟨hr, hrs⟩⟩ := h
  have hp : PsR ps := fun p hm => (hp p hm).2
  unfold laws_FnExactRoutesOk laws_toDevice
  simp only
  by_cases h1 : 1048576 < (ps.length : Int)
  · rw [dt h1]; rfl
  rw [df h1, cond_false]
  rcases szCnsB_ok cs (Nat.le_trans hc (by decide)) (fun c hm => Nat.le_trans (hcs c hm).2.2.1 (by decide)) with e | ⟨hb, z, z0, z1, e⟩
  · rw [e]; rfl
  have hok := hb.ok
  rw [e]
  simp only [Option.bind_some]
  rw [df (by omega), cond_false]
  rcases szlistB ([], []) laws_szRoute RtB (fun b c x h1 h2 => by unfold RtB at *; omega) rs (Nat.le_trans hr (by decide)) (fun r hm => szRt_ok r (Nat.le_trans (hrs r hm).1.1 (by decide)) (Nat.le_trans (hrs r hm).2.1 (by decide))) z (by omega) (by omega) with e | ⟨hb2, z2, z3, z4, e⟩
  · have e' : laws_szRouteS (rs, z) = some (-1) := e
    rw [e']; rfl
  have e' : laws_szRouteS (rs, z) = some z2 := e
  have hrok : RtsOk rs := ⟨hb2.1, fun r hm => by
    have := hb2.2 r hm
    unfold RtB at this
    exact ⟨by omega, by omega⟩⟩
  rw [e']
  simp only [Option.bind_some]
  rw [df (by omega), cond_false]
  obtain ⟨b, hs, hi⟩ := rso_ok d ps cs rs hp (by omega) hok hrok
  simp only [toIntS_ok ps (by omega), toConnS_ok cs hok, toRtS_ok rs hrok, Option.bind_some, hs, hi, cond_false, beq_self_eq_true, Bool.true_xor, eqIntS_ok ps ps (by omega), eqConnS_refl cs hok, eqRtS_refl rs hrok, decide_true, Bool.not_true]
end Go.Pf
