/-
  Own work. The law of routing all connections, plainly: it says true.
-/
import Derived.Test.YtjpkedhcbnklmaaRtc
import Derived.Test.YtjpkedhcbnklmaaMcs
import Derived.Test.YtjpkedhcbnklmaaD
namespace Go.Pf
open Go Go.Pu
set_option linter.unusedVariables false

theorem first_bad (p : Nat → Bool) : ∀ n, (∀ k, k < n → p k = true) ∨ ∃ j, j < n ∧ p j = false ∧ ∀ k, k < j → p k = true := by
  intro n
  induction n with
  | zero => left; intro k hk; omega
  | succ n ih =>
    rcases ih with ih | ⟨j, h1, h2, h3⟩
    · cases h : p n with
      | true =>
        left
        intro k hk
        by_cases e : k = n
        · subst e; exact h
        · exact ih k (by omega)
      | false => right; exact ⟨n, by omega, h, ih⟩
    · right; exact ⟨j, by omega, h2, h3⟩
def rgood (d : Dev) (ps : List Int) (c : Conn) : Bool := decide (0 ≤ srcP d ps c.2.1) && !(snksP d ps c.2.2).isEmpty
theorem srcL_take (d : Dev) (ps : List Int) {cs : List Conn} {k : Nat} (h : k < cs.length) : srcL d ps (cs.take (k + 1)) = srcL d ps (cs.take k) ++ [srcP d ps (cnAt cs k).2.1] := by
  have e : cnAt cs k = cs[k] := by unfold cnAt; rw [List.getD, List.getElem?_eq_getElem h]; rfl
  unfold srcL
  rw [take_succ' cs k h, List.map_append, e]; rfl
theorem snkL_take (d : Dev) (ps : List Int) {cs : List Conn} {k : Nat} (h : k < cs.length) : snkL d ps (cs.take (k + 1)) = snkL d ps (cs.take k) ++ [snksP d ps (cnAt cs k).2.2] := by
  have e : cnAt cs k = cs[k] := by unfold cnAt; rw [List.getD, List.getElem?_eq_getElem h]; rfl
  unfold snkL
  rw [take_succ' cs k h, List.map_append, e]; rfl
theorem gapp24 {xs ys : List (List Int)} (h : xs.length + ys.length ≤ 1000000000) : gapp 24 xs ys = some (xs ++ ys) := gapp_some (by omega) (by omega)
theorem ra_ok (d : Dev) (ps : List Int) (cs : List Conn) (hp : PsR ps) (hpl : ps.length ≤ 1048576) (hc : CnsOk cs) :
    ∃ o, spec_RouteAll (d, (ps, cs)) = some o ∧ impl_RouteAll (d, (ps, cs)) = some o ∧ o.1.length ≤ 100 ∧ ∀ r ∈ o.1, r.1.length ≤ 828 ∧ r.2.length ≤ 828 := by
  unfold spec_RouteAll impl_RouteAll
  dsimp only
  rw [devOk_spec, devOk_impl]
  simp only [Option.bind_some]
  by_cases hd : DOk d
  rotate_left
  · rw [df hd]; exact ⟨([], false), rfl, rfl, by simp, by simp⟩
  rw [dt hd, cns_spec, cns_impl]
  simp only [Option.bind_some, Bool.not_true, cond_false]
  cases hcn : cnsP (ps.length : Int) cs with
  | false => exact ⟨([], false), rfl, rfl, by simp, by simp⟩
  | true =>
    have hcs : cs.length ≤ 100 := by
      unfold cnsP at hcn
      simp only [Bool.and_eq_true, decide_eq_true_eq] at hcn
      omega
    simp only [Bool.not_true, cond_false]
    have hcl := hc.2
    have hn := nodesN_le hd
    have hG := dG_ok hd
    obtain ⟨R, hR1, hR2⟩ := graph_impl hd
    rw [gmake_nat (by omega) (by omega)]
    simp only [Option.bind_some]
    rcases first_bad (fun k => rgood d ps (cnAt cs k)) cs.length with hall | ⟨j, hj, hbad, hgood⟩
    · have hsrc : ∀ c ∈ cs, 0 ≤ srcP d ps c.2.1 := fun c hm => by
        obtain ⟨k, hk, rfl⟩ := List.getElem_of_mem hm
        have := hall k hk
        have e : cnAt cs k = cs[k] := by unfold cnAt; rw [List.getD, List.getElem?_eq_getElem hk]; rfl
        rw [e] at this
        unfold rgood at this
        simp only [Bool.and_eq_true, decide_eq_true_eq] at this
        exact this.1
      obtain ⟨o, o1, o2, o3⟩ := ro_run hd hp hpl hcs (fun c hm => hcl c hm) hR2 hsrc 12 1 (List.replicate (nodesN d).toNat 0) (List.replicate cs.length ([], [])) (by omega) (by omega) ⟨by simp, fun x hx => by rw [nsAt_rep _ 0 hx]; omega⟩ ⟨by simp, fun r hr => by rw [List.eq_of_mem_replicate hr]; simp⟩
      refine ⟨o, ?_, ?_, o3⟩
      · refine loop_upto cs.length (fun k => (k : Int)) (fun k hk => ?_) ?_
        · obtain ⟨g1, g2⟩ := cn_get hk
          have hg := hall k hk
          unfold rgood at hg
          simp only [Bool.and_eq_true, decide_eq_true_eq] at hg
          have hcc := hcl _ g2
          try dsimp only
          rw [dt (by omega), cond_true, g1]
          simp only [Option.bind_some]
          rw [src_spec d ps _ hp]
          simp only [Option.bind_some]
          rw [df (by omega), cond_false, snks_spec d ps _ hp hcc]
          simp only [Option.bind_some]
          rw [df (fun e => by
            have h0 : snksP d ps (cnAt cs k).2.2 = [] := List.eq_nil_of_length_eq_zero (by omega)
            rw [h0] at hg; simp at hg), cond_false, wrap_ok (by omega)]; rfl
        · try dsimp only
          rw [df (by omega), cond_false, graph_spec hd]
          simp only [Option.bind_some]
          have hgm : gmake 8 (0 : Int) ((dG d).length : Int) = some (List.replicate (nodesN d).toNat 0) := by rw [hG.1, gmake_nat (by omega) (by omega)]
          rw [hgm]
          simp only [Option.bind_some]
          have o2' : loop (obS d ps cs (dG d)) (1, (List.replicate cs.length ([], []), List.replicate (nodesN d).toNat 0)) = some o := o2
          refine Eq.trans (congrArg (Option.map Sum.inr) (Eq.trans ?_ o2')) rfl
          rfl
      · refine loop_upto cs.length (fun k => (srcL d ps (cs.take k), (snkL d ps (cs.take k), (k : Int)))) (fun k hk => ?_) ?_
        · obtain ⟨g1, g2⟩ := cn_get hk
          have hg := hall k hk
          unfold rgood at hg
          simp only [Bool.and_eq_true, decide_eq_true_eq] at hg
          have hcc := hcl _ g2
          have hl1 : (srcL d ps (cs.take k)).length ≤ k := by unfold srcL; rw [List.length_map, List.length_take]; omega
          have hl2 : (snkL d ps (cs.take k)).length ≤ k := by unfold snkL; rw [List.length_map, List.length_take]; omega
          try dsimp only
          rw [dt (by omega), cond_true, g1]
          simp only [Option.bind_some]
          rw [src_impl d ps _ hp hpl]
          simp only [Option.bind_some]
          rw [snks_impl d ps _ hp hpl hcc]
          simp only [Option.bind_some]
          rw [df (by omega), cond_false]
          have h0 : (snksP d ps (cnAt cs k).2.2).isEmpty = false := by simpa using hg.2
          unfold gnil
          rw [Bool.true_or, if_pos rfl, h0]
          simp only [Option.bind_some, cond_false]
          rw [gapp_ok (by simp only [List.length_singleton]; omega)]
          simp only [Option.bind_some]
          rw [gapp24 (by simp only [List.length_singleton]; omega)]
          simp only [Option.bind_some]
          rw [srcL_take d ps hk, snkL_take d ps hk, wrap_ok (by omega)]; rfl
        · try dsimp only
          rw [df (by omega), cond_false, List.take_length, hR1]
          simp only [Option.bind_some]
          rw [routeNodes_impl hd]
          simp only [Option.bind_some]
          have hN : nodesN d = ((nodesN d).toNat : Int) := by omega
          rw [hN, gmake_nat (by omega) (by omega)]
          simp only [Option.bind_some]
          have o1' : loop (obI (cs.length : Int) (srcL d ps cs) (snkL d ps cs) (dG d, R)) (1, (List.replicate (nodesN d).toNat 0, List.replicate cs.length ([], []))) = some o := o1
          refine Eq.trans (congrArg (Option.map Sum.inr) (Eq.trans ?_ o1')) rfl
          rfl
    · refine ⟨([], false), ?_, ?_, by simp, by simp⟩
      · refine loop_upto j (fun k => (k : Int)) (fun k hk => ?_) ?_
        · obtain ⟨g1, g2⟩ := cn_get (show k < cs.length by omega)
          have hg := hgood k hk
          unfold rgood at hg
          simp only [Bool.and_eq_true, decide_eq_true_eq] at hg
          have hcc := hcl _ g2
          try dsimp only
          rw [dt (by omega), cond_true, g1]
          simp only [Option.bind_some]
          rw [src_spec d ps _ hp]
          simp only [Option.bind_some]
          rw [df (by omega), cond_false, snks_spec d ps _ hp hcc]
          simp only [Option.bind_some]
          rw [df (fun e => by
            have h0 : snksP d ps (cnAt cs k).2.2 = [] := List.eq_nil_of_length_eq_zero (by omega)
            rw [h0] at hg; simp at hg), cond_false, wrap_ok (by omega)]; rfl
        · obtain ⟨g1, g2⟩ := cn_get hj
          have hcc := hcl _ g2
          try dsimp only
          rw [dt (by omega), cond_true, g1]
          simp only [Option.bind_some]
          rw [src_spec d ps _ hp]
          simp only [Option.bind_some]
          by_cases h0 : srcP d ps (cnAt cs j).2.1 < 0
          · rw [dt h0]; rfl
          · rw [df h0, cond_false, snks_spec d ps _ hp hcc]
            simp only [Option.bind_some]
            have h1 : snksP d ps (cnAt cs j).2.2 = [] := by
              unfold rgood at hbad
              rw [dt (show 0 ≤ srcP d ps (cnAt cs j).2.1 by omega)] at hbad
              simpa using hbad
            rw [h1]; rfl
      · refine loop_upto j (fun k => (srcL d ps (cs.take k), (snkL d ps (cs.take k), (k : Int)))) (fun k hk => ?_) ?_
        · obtain ⟨g1, g2⟩ := cn_get (show k < cs.length by omega)
          have hg := hgood k hk
          unfold rgood at hg
          simp only [Bool.and_eq_true, decide_eq_true_eq] at hg
          have hcc := hcl _ g2
          have hl1 : (srcL d ps (cs.take k)).length ≤ k := by unfold srcL; rw [List.length_map, List.length_take]; omega
          have hl2 : (snkL d ps (cs.take k)).length ≤ k := by unfold snkL; rw [List.length_map, List.length_take]; omega
          try dsimp only
          rw [dt (by omega), cond_true, g1]
          simp only [Option.bind_some]
          rw [src_impl d ps _ hp hpl]
          simp only [Option.bind_some]
          rw [snks_impl d ps _ hp hpl hcc]
          simp only [Option.bind_some]
          rw [df (by omega), cond_false]
          have h0 : (snksP d ps (cnAt cs k).2.2).isEmpty = false := by simpa using hg.2
          unfold gnil
          rw [Bool.true_or, if_pos rfl, h0]
          simp only [Option.bind_some, cond_false]
          rw [gapp_ok (by simp only [List.length_singleton]; omega)]
          simp only [Option.bind_some]
          rw [gapp24 (by simp only [List.length_singleton]; omega)]
          simp only [Option.bind_some]
          rw [srcL_take d ps (by omega), snkL_take d ps (by omega), wrap_ok (by omega)]; rfl
        · obtain ⟨g1, g2⟩ := cn_get hj
          have hcc := hcl _ g2
          try dsimp only
          rw [dt (by omega), cond_true, g1]
          simp only [Option.bind_some]
          rw [src_impl d ps _ hp hpl]
          simp only [Option.bind_some]
          rw [snks_impl d ps _ hp hpl hcc]
          simp only [Option.bind_some]
          by_cases h0 : srcP d ps (cnAt cs j).2.1 < 0
          · rw [dt h0]; rfl
          · rw [df h0, cond_false]
            have h1 : snksP d ps (cnAt cs j).2.2 = [] := by
              unfold rgood at hbad
              rw [dt (show 0 ≤ srcP d ps (cnAt cs j).2.1 by omega)] at hbad
              simpa using hbad
            rw [h1]; rfl

def kR (k : Int) : List Rt → Int
  | [] => k
  | r :: rs => kR (k + (r.1.length : Int) + (r.2.length : Int)) rs
def mkR (k : Int) : List Rt → List Rt
  | [] => []
  | r :: rs => (marks k r.1.length, marks (k + (r.1.length : Int)) r.2.length) :: mkR (k + (r.1.length : Int) + (r.2.length : Int)) rs
theorem kR_app (r : Rt) : ∀ (xs : List Rt) (k : Int), kR k (xs ++ [r]) = kR k xs + (r.1.length : Int) + (r.2.length : Int)
  | [], k => rfl
  | x :: xs, k => kR_app r xs _
theorem mkR_app : ∀ (xs ys : List Rt) (k : Int), mkR k (xs ++ ys) = mkR k xs ++ mkR (kR k xs) ys
  | [], ys, k => rfl
  | x :: xs, ys, k => by
    show _ :: mkR _ (xs ++ ys) = _ :: (mkR _ xs ++ _)
    rw [mkR_app xs ys]; rfl
theorem mkR_len : ∀ (xs : List Rt) (k : Int), (mkR k xs).length = xs.length
  | [], k => rfl
  | x :: xs, k => by show (mkR _ xs).length + 1 = xs.length + 1; rw [mkR_len xs]
def RLens (rs : List Rt) : Prop := rs.length ≤ 100 ∧ ∀ r ∈ rs, r.1.length ≤ 828 ∧ r.2.length ≤ 828
theorem kR_le : ∀ (xs : List Rt) (k : Int), (∀ r ∈ xs, r.1.length ≤ 828 ∧ r.2.length ≤ 828) → k ≤ kR k xs ∧ kR k xs ≤ k + 1656 * (xs.length : Int)
  | [], k, _ => by simp [kR]
  | x :: xs, k, h => by
    have h1 := kR_le xs (k + (x.1.length : Int) + (x.2.length : Int)) (fun m hm => h m (List.mem_cons_of_mem _ hm))
    have h2 := h x (by simp)
    show k ≤ kR (k + (x.1.length : Int) + (x.2.length : Int)) xs ∧ kR (k + (x.1.length : Int) + (x.2.length : Int)) xs ≤ _
    rw [List.length_cons]
    omega
theorem kR_take {xs : List Rt} (h : RLens xs) (k : Int) (i : Nat) : k ≤ kR k (xs.take i) ∧ kR k (xs.take i) ≤ k + 165600 := by
  have := kR_le (xs.take i) k (fun m hm => h.2 m (List.mem_of_mem_take hm))
  have h1 := h.1
  have h2 : (xs.take i).length ≤ xs.length := by rw [List.length_take]; omega
  omega
theorem markRts_eq (rs : List Rt) (k : Int) (hk : 0 ≤ k) (hk2 : k ≤ 1000000000) (h : RLens rs) : laws_markRouteS (rs, k) = some (kR k rs, mkR k rs) := by
  have hc1 := h.1
  unfold laws_markRouteS
  have e0 : (k, ((0 : Int), rs)) = (fun i : Nat => (kR k (rs.take i), ((i : Int), mkR k (rs.take i) ++ rs.drop i))) 0 := by simp [mkR, kR]
  try dsimp only
  rw [e0]
  refine loop_upto rs.length (fun i => (kR k (rs.take i), ((i : Int), mkR k (rs.take i) ++ rs.drop i))) (fun i hi => ?_) ?_
  · have hml : (mkR k (rs.take i)).length = i := by rw [mkR_len, List.length_take]; omega
    have hkb := kR_take h k i
    have hm := h.2 rs[i] (List.getElem_mem _)
    rw [take_succ' rs i hi, kR_app, mkR_app]
    generalize kR k (rs.take i) = z at *
    generalize mkR k (rs.take i) = ms at *
    have hl : (ms ++ rs.drop i).length = rs.length := by rw [List.length_append, hml, List.length_drop]; omega
    have hd : rs.drop i = rs[i] :: rs.drop (i + 1) := List.drop_eq_getElem_cons hi
    have ge : (ms ++ rs.drop i)[i]'(by omega) = rs[i] := by
      rw [List.getElem_append_right (by omega)]
      simp [hml]
    have gs : ∀ (a : List Rt) (x : Rt), i < a.length → gget (([], []) : Rt) (a.set i x) (i : Int) = some x := fun a x ha => by
      rw [gget_nat (by rw [List.length_set]; exact ha), List.getElem_set_self]
    have hlt : i < (ms ++ rs.drop i).length := by rw [hl]; exact hi
    try dsimp only
    rw [dt (show (i : Int) < ((ms ++ rs.drop i).length : Int) by rw [hl]; omega), cond_true, gin_nat hlt, gget_nat hlt]
    simp only [Option.bind_some]
    rw [ge, markIntS_ok _ _ (by omega) (by omega) (by omega)]
    simp only [Option.bind_some]
    rw [gset_nat, List.length_set, gin_nat hlt, gs _ _ hlt]
    simp only [Option.bind_some]
    rw [markIntS_ok _ _ (by omega) (by omega) (by omega)]
    simp only [Option.bind_some]
    rw [gset_nat, List.set_set, wrap_ok (z := (i : Int) + 1) (by omega)]
    have e1 : ∀ x : Rt, (ms ++ rs.drop i).set i x = ms ++ [x] ++ rs.drop (i + 1) := fun x => by
      rw [List.set_append_right _ _ (by omega), hml, Nat.sub_self, hd, List.set_cons_zero]; simp
    rw [e1]; rfl
  · have hml : (mkR k (rs.take rs.length)).length = rs.length := by rw [mkR_len, List.length_take]; omega
    have hl : (mkR k (rs.take rs.length) ++ rs.drop rs.length).length = rs.length := by rw [List.length_append, hml, List.length_drop]; omega
    try dsimp only
    rw [hl, df (by omega), cond_false, List.drop_of_length_le (Nat.le_refl _), List.append_nil, List.take_length]; rfl
theorem heldRts_ok (rs : List Rt) (k : Int) (hk : 0 ≤ k) (hk2 : k ≤ 1000000000) (h : RLens rs) : laws_heldRouteS (mkR k rs, k) = some (kR k rs) := by
  have hc1 := h.1
  unfold laws_heldRouteS
  have e0 : (k, (0 : Int)) = (fun i : Nat => (kR k (rs.take i), (i : Int))) 0 := by simp [kR]
  have hml := mkR_len rs k
  try dsimp only
  rw [e0]
  refine loop_upto rs.length (fun i => (kR k (rs.take i), (i : Int))) (fun i hi => ?_) ?_
  · have hkb := kR_take h k i
    have hm := h.2 rs[i] (List.getElem_mem _)
    have hat : gget (([], []) : Rt) (mkR k rs) (i : Int) = some (marks (kR k (rs.take i)) rs[i].1.length, marks (kR k (rs.take i) + (rs[i].1.length : Int)) rs[i].2.length) := by
      have e : mkR k rs = mkR k (rs.take i) ++ (marks (kR k (rs.take i)) rs[i].1.length, marks (kR k (rs.take i) + (rs[i].1.length : Int)) rs[i].2.length) :: mkR (kR k (rs.take i) + (rs[i].1.length : Int) + (rs[i].2.length : Int)) (rs.drop (i + 1)) := by
        have h2 : rs = rs.take i ++ (rs[i] :: rs.drop (i + 1)) := by rw [← List.drop_eq_getElem_cons hi, List.take_append_drop]
        have h3 := mkR_app (rs.take i) (rs[i] :: rs.drop (i + 1)) k
        rw [← h2] at h3
        exact h3
      have hl : (mkR k (rs.take i)).length = i := by rw [mkR_len, List.length_take]; omega
      rw [gget_nat (by rw [mkR_len]; exact hi)]
      congr 1
      simp only [e]
      rw [List.getElem_append_right (by omega)]
      simp [hl]
    try dsimp only
    rw [hml, dt (show (i : Int) < (rs.length : Int) by omega), cond_true, hat, take_succ' rs i hi, kR_app]
    generalize kR k (rs.take i) = z at *
    simp only [Option.bind_some]
    rw [heldIntS_ok _ _ (by omega) (by omega) (by omega)]
    simp only [Option.bind_some]
    rw [df (by omega), cond_false]
    rw [heldIntS_ok _ _ (by omega) (by omega) (by omega)]
    simp only [Option.bind_some]
    rw [df (by omega), cond_false, wrap_ok (z := (i : Int) + 1) (by omega)]; rfl
  · try dsimp only
    rw [hml, df (by omega), cond_false, List.take_length]; rfl
theorem law_FnExactRouteAll (x : ((Int × (Int × (Int × Int))) × (List Int × List (Int × ((Int × Int) × List (Int × Int)))))) (h : InR (tP (tP tI (tP tI (tP tI tI))) (tP (tS 0 tI) (tS 0 (tP tI (tP (tP tI tI) (tS 0 (tP tI tI))))))) x) : laws_FnExactRouteAll x = some true := by
  obtain ⟨d, ps, cs⟩ := x
  obtain ⟨_, ⟨hpl, hp⟩, ⟨hc, hcs⟩⟩ := h
  have hp : PsR ps := fun p hm => (hp p hm).2
  unfold laws_FnExactRouteAll laws_toDevice
  simp only
  by_cases h1 : 1048576 < (ps.length : Int)
  · rw [dt h1]; rfl
  rw [df h1, cond_false]
  rcases szCnsB_ok cs (Nat.le_trans hc (by decide)) (fun c hm => Nat.le_trans (hcs c hm).2.2.1 (by decide)) with e | ⟨hb, z, z0, z1, e⟩
  · rw [e]; rfl
  have hok := hb.ok
  rw [e]
  simp only [Option.bind_some]
  rw [df (by omega), cond_false]
  obtain ⟨o, hs, hi, hl1, hl2⟩ := ra_ok d ps cs hp (by omega) hok
  have hrl : RLens o.1 := ⟨hl1, hl2⟩
  have hrok : RtsOk o.1 := ⟨by omega, fun r hm => by have := hl2 r hm; exact ⟨by omega, by omega⟩⟩
  obtain ⟨q, hq, hq0, hq1⟩ := markCns_le cs (1 + (ps.length : Int)) (by omega) (by omega) hb
  have hk := kR_take hrl 1 o.1.length
  rw [List.take_length] at hk
  simp only [toIntS_ok ps (by omega), toConnS_ok cs hok, Option.bind_some, hs, hi, cond_false, beq_self_eq_true, Bool.true_xor, eqIntS_ok ps ps (by omega), eqConnS_refl cs hok, eqRtS_refl o.1 hrok, decide_true, Bool.not_true, markIntS_ok ps 1 (by omega) (by omega) (by omega), hq, df (show ¬ (q.1 < 0) by omega)]
  rw [markRts_eq o.1 1 (by omega) (by omega) hrl]
  simp only [Option.bind_some, heldRts_ok o.1 1 (by omega) (by omega) hrl, df (show ¬ (kR 1 o.1 < 0) by omega), cond_false, ne_eq, not_true_eq_false, decide_false]
end Go.Pf

