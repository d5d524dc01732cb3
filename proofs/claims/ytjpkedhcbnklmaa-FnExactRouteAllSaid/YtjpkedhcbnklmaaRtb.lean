/-
  Own work. Routing all connections, plainly: one round over the connections.
-/
import Derived.Test.YtjpkedhcbnklmaaRta
import Derived.Test.YtjpkedhcbnklmaaSep
namespace Go.Pf
open Go Go.Pu
set_option linter.unusedVariables false

abbrev RO := (Int × (List Int × List Rt)) ⊕ (List Rt × Bool)
abbrev SO := (Int × (List Rt × List Int)) ⊕ (List Rt × Bool)
noncomputable def rkI (v16 : Int) (srcs : List Int) (snks : List (List Int)) (hist : List Int) (i : Int) (GR : List (List Int) × List (List Int)) (K : List Rt → Option RO) : (Int × List Rt) → Option ((Int × List Rt) ⊕ RO) := (fun (v17 : (Int × List (List Int × List Int))) =>
            let v18 : Bool := decide (v17.1 < v16)
            bif v18 then (
              (gslice v17.2 0 v17.1).bind fun v19 =>
              let v20 : Int := wrap .i64 (v17.1 + 1)
              (gslice v17.2 v20 ((v17.2).length : Int)).bind fun v21 =>
              (gapp 48 ([] : List (List Int × List Int)) v19).bind fun v22 =>
              (gapp 48 v22 v21).bind fun v23 =>
              let v24 : Int := ((hist).length : Int)
              let v25 : Int := wrap .i64 (5 * i)
              (gin (srcs).length v17.1).bind fun _ =>
              (gget 0 srcs v17.1).bind fun v27 =>
              (gin (snks).length v17.1).bind fun _ =>
              (gget [] snks v17.1).bind fun v29 =>
              (impl_usage (v24, v23)).bind fun v30 =>
              (impl_sharedCosts (hist, (v30, v25))).bind fun v31 =>
              (impl_growRoute (GR, (v31, (v27, v29)))).bind fun v32 =>
              let v33 : Bool := !v32.2
              bif v33 then (
                Option.map Sum.inr (
                  Option.map Sum.inr (
                    some (([] : List (List Int × List Int)), false)))) else
              (gin (v17.2).length v17.1).bind fun _ =>
              (gget ([], []) v17.2 v17.1).bind fun v35 =>
              let v36 : (List Int × List Int) := v32.1
              let v37 : List (List Int × List Int) := gset v17.2 v17.1 v36
              let v38 : Int := wrap .i64 (v17.1 + 1)
              some (.inl (v38, v37))) else
            Option.map Sum.inr (K v17.2))
noncomputable def rkS (d : Dev) (ps : List Int) (cs : List Conn) (hist : List Int) (i : Int) (G : List (List Int)) (K : List Rt → Option SO) : (Int × List Rt) → Option ((Int × List Rt) ⊕ SO) := (fun (v16 : (Int × List (List Int × List Int))) =>
            let v17 : Int := ((cs).length : Int)
            let v18 : Bool := decide (v16.1 < v17)
            bif v18 then (
              let v19 : Int := ((G).length : Int)
              (spec_l34Load (v19, (v16.2, v16.1))).bind fun v20 =>
              let v21 : Int := wrap .i64 (5 * i)
              (spec_l34Costs (hist, (v20, v21))).bind fun v22 =>
              (gget (0, ((0, 0), [])) cs v16.1).bind fun v23 =>
              (gget (0, ((0, 0), [])) cs v16.1).bind fun v24 =>
              (spec_SourceNode (d, (ps, v23))).bind fun v25 =>
              (spec_SinkNodes (d, (ps, v24))).bind fun v26 =>
              (spec_l33Grow (G, (v22, (v25, v26)))).bind fun v27 =>
              let v28 : Bool := !v27.2
              bif v28 then (
                Option.map Sum.inr (
                  Option.map Sum.inr (
                    some (([] : List (List Int × List Int)), false)))) else
              (gin (v16.2).length v16.1).bind fun _ =>
              (gget ([], []) v16.2 v16.1).bind fun v30 =>
              let v31 : (List Int × List Int) := v27.1
              let v32 : List (List Int × List Int) := gset v16.2 v16.1 v31
              let v33 : Int := wrap .i64 (v16.1 + 1)
              some (.inl (v33, v32))) else
            Option.map Sum.inr (K v16.2))
def RtInv (n : Nat) (rs : List Rt) : Prop := rs.length = n ∧ ∀ r ∈ rs, r.1.length ≤ 828 ∧ r.2.length ≤ 828
theorem RtInv.ok {n : Nat} (hn : n ≤ 1000) {rs : List Rt} (h : RtInv n rs) : RtsOk rs := ⟨by rw [h.1]; omega, fun r hr => by have := h.2 r hr; exact ⟨by omega, by omega⟩⟩
theorem loop_end {σ ω : Type} {f : σ → Option (σ ⊕ ω)} {s : σ} {X : Option ω} (h : f s = Option.map Sum.inr X) : loop f s = X := by
  rw [loop_eq, h]
  cases X <;> rfl
theorem loop_inl' {σ ω : Type} {f : σ → Option (σ ⊕ ω)} {s s' : σ} (h : f s = some (.inl s')) : loop f s = loop f s' := by rw [loop_eq, h]
theorem loop_inr' {σ ω : Type} {f : σ → Option (σ ⊕ ω)} {s : σ} {o : ω} (h : f s = some (.inr o)) : loop f s = some o := by rw [loop_eq, h]
theorem srcP_node {d : Dev} {ps : List Int} {p : Pin} (h : 0 ≤ srcP d ps p) : srcP d ps p < nodesN d := by
  unfold srcP at h ⊢
  split at h
  · rename_i q
    rw [if_pos q]; exact (outPin_node h).2.1
  · omega
def cnAt (cs : List Conn) (k : Nat) : Conn := cs.getD k (0, ((0, 0), []))
theorem cn_get {cs : List Conn} {k : Nat} (h : k < cs.length) : gget ((0, ((0, 0), [])) : Conn) cs (k : Int) = some (cnAt cs k) ∧ cnAt cs k ∈ cs := by
  have e : cnAt cs k = cs[k] := by unfold cnAt; rw [List.getD, List.getElem?_eq_getElem h]; rfl
  rw [e]
  exact ⟨gget_nat h, List.getElem_mem h⟩
def srcL (d : Dev) (ps : List Int) (cs : List Conn) : List Int := cs.map fun c => srcP d ps c.2.1
def snkL (d : Dev) (ps : List Int) (cs : List Conn) : List (List Int) := cs.map fun c => snksP d ps c.2.2
theorem srcL_at (d : Dev) (ps : List Int) {cs : List Conn} {k : Nat} (h : k < cs.length) : gget 0 (srcL d ps cs) (k : Int) = some (srcP d ps (cnAt cs k).2.1) := by
  have e : cnAt cs k = cs[k] := by unfold cnAt; rw [List.getD, List.getElem?_eq_getElem h]; rfl
  rw [gget_nat (by unfold srcL; rw [List.length_map]; exact h), e]
  simp [srcL]
theorem snkL_at (d : Dev) (ps : List Int) {cs : List Conn} {k : Nat} (h : k < cs.length) : gget [] (snkL d ps cs) (k : Int) = some (snksP d ps (cnAt cs k).2.2) := by
  have e : cnAt cs k = cs[k] := by unfold cnAt; rw [List.getD, List.getElem?_eq_getElem h]; rfl
  rw [gget_nat (by unfold snkL; rw [List.length_map]; exact h), e]
  simp [snkL]
theorem gsliceR_pre {xs : List Rt} {k : Nat} (h : k ≤ xs.length) : gslice xs 0 (k : Int) = some (xs.take k) := by
  unfold gslice
  rw [if_pos ⟨by omega, by omega, by omega⟩]; simp
theorem gsliceR_suf {xs : List Rt} {k : Nat} (h : k ≤ xs.length) : gslice xs (k : Int) (xs.length : Int) = some (xs.drop k) := by
  unfold gslice
  rw [if_pos ⟨by omega, by omega, by omega⟩]; simp
theorem gapp48r {xs ys : List Rt} (h : xs.length + ys.length ≤ 1000000000) : gapp 48 xs ys = some (xs ++ ys) := gapp_some (by omega) (by omega)
theorem rk_run {d : Dev} {ps : List Int} {cs : List Conn} (hd : DOk d) (hp : PsR ps) (hpl : ps.length ≤ 1048576) (hcs : cs.length ≤ 100) (hcl : ∀ c ∈ cs, c.2.2.length ≤ 1048576) {R : List (List Int)} (hR : RevOk (nodesN d).toNat (dG d) R)
    (hsrc : ∀ c ∈ cs, 0 ≤ srcP d ps c.2.1) {hist : List Int} (hh : HsOk (nodesN d).toNat 1000000 hist) {i : Int} (hi : 1 ≤ i ∧ i ≤ 12) (KI : List Rt → Option RO) (KS : List Rt → Option SO) :
    ∀ (m k : Nat) (rs : List Rt), k + m = cs.length → RtInv cs.length rs →
      (loop (rkI (cs.length : Int) (srcL d ps cs) (snkL d ps cs) hist i (dG d, R) KI) ((k : Int), rs) = some (.inr ([], false)) ∧ loop (rkS d ps cs hist i (dG d) KS) ((k : Int), rs) = some (.inr ([], false))) ∨
      ∃ rs', RtInv cs.length rs' ∧ loop (rkI (cs.length : Int) (srcL d ps cs) (snkL d ps cs) hist i (dG d, R) KI) ((k : Int), rs) = KI rs' ∧ loop (rkS d ps cs hist i (dG d) KS) ((k : Int), rs) = KS rs'
  | 0, k, rs, hm, hrs => by
    have e : k = cs.length := by omega
    subst e
    right
    refine ⟨rs, hrs, loop_end ?_, loop_end ?_⟩
    · unfold rkI
      try dsimp only
      rw [df (by omega), cond_false]
    · unfold rkS
      try dsimp only
      rw [df (by omega), cond_false]
  | m + 1, k, rs, hm, hrs => by
    have hk : k < cs.length := by omega
    have hkr : k < rs.length := by rw [hrs.1]; exact hk
    obtain ⟨g1, g2⟩ := cn_get hk
    have hn := nodesN_le hd
    have hN : ((nodesN d).toNat : Int) = nodesN d := by omega
    have hG := dG_ok hd
    have hGl : ((dG d).length : Int) = ((nodesN d).toNat : Int) := by rw [hG.1]
    have hs0 := hsrc _ g2
    have hs1 := srcP_node hs0
    have hsl := snks_len d ps (cnAt cs k).2.2
    have hcc := hcl _ g2
    have hrl : rs.length ≤ 100 := by rw [hrs.1]; exact hcs
    have hld := ldT_bd (nodesN d).toNat rs (k : Int) rs.length (by omega)
    have hll := ldT_len (nodesN d).toNat rs (k : Int) rs.length
    have hcst := sq_cs (p := 5 * i) hh (by omega) hll (fun x hx => by have := hld x hx; omega)
    have hst : GrowOk (nodesN d).toNat ([srcP d ps (cnAt cs k).2.1], [0]) := ⟨by simp, fun x hx => by have hx := List.mem_singleton.1 hx; omega, rfl⟩
    obtain ⟨o, o1, o2, o3⟩ := grow_both hG hR hcst (snksP d ps (cnAt cs k).2.2) (by omega) (snksP d ps (cnAt cs k).2.2).length 0 ([srcP d ps (cnAt cs k).2.1], [0]) (by omega) hst (by simp)
    have e1 : spec_l33Grow (dG d, (sqT hist (ldT (nodesN d).toNat rs (k : Int) rs.length) (5 * i) (nodesN d).toNat, (srcP d ps (cnAt cs k).2.1, snksP d ps (cnAt cs k).2.2))) = some o := o1
    have e2 : impl_growRoute ((dG d, R), (sqT hist (ldT (nodesN d).toNat rs (k : Int) rs.length) (5 * i) (nodesN d).toNat, (srcP d ps (cnAt cs k).2.1, snksP d ps (cnAt cs k).2.2))) = some o := o2
    have hus : impl_usage ((hist.length : Int), rs.take k ++ rs.drop (k + 1)) = some (ldT (nodesN d).toNat rs (k : Int) rs.length) := by
      rw [hh.1, usage_impl _ _ (by omega), ld_without _ rs hkr]
      have hok := hrs.ok (by omega)
      refine ⟨by rw [List.length_append, List.length_take, List.length_drop]; omega, fun r hr => ?_⟩
      rcases List.mem_append.1 hr with q | q
      · exact hok.2 r (List.mem_of_mem_take q)
      · exact hok.2 r (List.mem_of_mem_drop q)
    have hlo : spec_l34Load (((dG d).length : Int), (rs, (k : Int))) = some (ldT (nodesN d).toNat rs (k : Int) rs.length) := by
      rw [hGl]; exact load_spec _ rs _ (by omega) (hrs.ok (by omega))
    have hci : impl_sharedCosts (hist, (ldT (nodesN d).toNat rs (k : Int) rs.length, 5 * i)) = some (sqT hist (ldT (nodesN d).toNat rs (k : Int) rs.length) (5 * i) (nodesN d).toNat) := by
      rw [shc_impl _ _ _ (by rw [hh.1, hll]) (by rw [hll]; omega), hll]
    have hcs' : spec_l34Costs (hist, (ldT (nodesN d).toNat rs (k : Int) rs.length, 5 * i)) = some (sqT hist (ldT (nodesN d).toNat rs (k : Int) rs.length) (5 * i) (nodesN d).toNat) := by
      rw [shc_spec _ _ _ (by rw [hh.1, hll]) (by rw [hll]; omega), hll]
    have fI : ∀ (b : Bool), o.2 = b → rkI (cs.length : Int) (srcL d ps cs) (snkL d ps cs) hist i (dG d, R) KI ((k : Int), rs) = some (if b then .inl (((k + 1 : Nat) : Int), rs.set k o.1) else .inr (.inr ([], false))) := fun b hb => by
      unfold rkI
      try dsimp only
      rw [dt (show (k : Int) < (cs.length : Int) by omega), cond_true, gsliceR_pre (by omega), wrap_ok (z := (k : Int) + 1) (by omega)]
      simp only [Option.bind_some]
      rw [show (k : Int) + 1 = ((k + 1 : Nat) : Int) from rfl, gsliceR_suf (by omega)]
      simp only [Option.bind_some]
      rw [gapp48r (by simp; omega)]
      simp only [Option.bind_some, List.nil_append]
      rw [gapp48r (by rw [List.length_take, List.length_drop]; omega), wrap_ok (z := 5 * i) (by omega)]
      simp only [Option.bind_some]
      rw [gin_nat (show k < (srcL d ps cs).length by unfold srcL; rw [List.length_map]; exact hk), srcL_at d ps hk, gin_nat (show k < (snkL d ps cs).length by unfold snkL; rw [List.length_map]; exact hk), snkL_at d ps hk]
      simp only [Option.bind_some]
      rw [hus]
      simp only [Option.bind_some]
      rw [hci]
      simp only [Option.bind_some]
      rw [e2]
      simp only [Option.bind_some]
      rw [hb]
      cases b with
      | false => rfl
      | true =>
        rw [Bool.not_true, cond_false, gin_nat hkr, gget_nat hkr]
        simp only [Option.bind_some]
        rw [gset_nat]; rfl
    have fS : ∀ (b : Bool), o.2 = b → rkS d ps cs hist i (dG d) KS ((k : Int), rs) = some (if b then .inl (((k + 1 : Nat) : Int), rs.set k o.1) else .inr (.inr ([], false))) := fun b hb => by
      unfold rkS
      try dsimp only
      rw [dt (show (k : Int) < (cs.length : Int) by omega), cond_true, hlo]
      simp only [Option.bind_some]
      rw [wrap_ok (z := 5 * i) (by omega), hcs']
      simp only [Option.bind_some]
      rw [g1]
      simp only [Option.bind_some]
      rw [src_spec d ps _ hp, snks_spec d ps _ hp hcc]
      simp only [Option.bind_some]
      rw [e1]
      simp only [Option.bind_some]
      rw [hb]
      cases b with
      | false => rfl
      | true =>
        rw [Bool.not_true, cond_false, gin_nat hkr, gget_nat hkr]
        simp only [Option.bind_some]
        rw [gset_nat, wrap_ok (by omega)]; rfl
    cases hb : o.2 with
    | false =>
      left
      exact ⟨loop_inr' (fI false hb), loop_inr' (fS false hb)⟩
    | true =>
      have hrs' : RtInv cs.length (rs.set k o.1) := by
        refine ⟨by rw [List.length_set]; exact hrs.1, fun r hr => ?_⟩
        rcases List.mem_or_eq_of_mem_set hr with q | q
        · exact hrs.2 r q
        · subst q
          rcases o3 with o3 | o3
          · have := o3.len
            have := o3.2.2
            omega
          · rw [o3]; simp
      have hI := fI true hb
      have hS := fS true hb
      rw [if_pos rfl] at hI hS
      rcases rk_run hd hp hpl hcs hcl hR hsrc hh hi KI KS m (k + 1) (rs.set k o.1) (by omega) hrs' with ⟨q1, q2⟩ | ⟨rs', q0, q1, q2⟩
      · left
        exact ⟨(loop_inl' hI).trans q1, (loop_inl' hS).trans q2⟩
      · right
        exact ⟨rs', q0, (loop_inl' hI).trans q1, (loop_inl' hS).trans q2⟩
end Go.Pf

