/-
  Own work. The law of overused nodes, plainly: it says true.
-/
import Derived.Test.YtfkaffmfhnkebaaUse
namespace Go.Pf
open Go Go.Pu
set_option linter.unusedVariables false
def ovT (ld : List Int) (n : Nat) : List Int := ((List.range n).map fun (t : Nat) => (t : Int)).filter fun t => decide (1 < ld.getD t.toNat 0)
theorem ovT_succ (ld : List Int) (n : Nat) : ovT ld (n + 1) = if 1 < ld.getD n 0 then ovT ld n ++ [(n : Int)] else ovT ld n := by
  unfold ovT
  rw [List.range_succ, List.map_append, List.filter_append]
  by_cases h : 1 < ld.getD n 0
  · rw [if_pos h]
    simp only [List.map_cons, List.map_nil]
    rw [List.filter_cons_of_pos (by simpa using h)]; rfl
  · rw [if_neg h]
    simp only [List.map_cons, List.map_nil]
    rw [List.filter_cons_of_neg (by simpa using h)]; simp
theorem ovT_len (ld : List Int) (n : Nat) : (ovT ld n).length ≤ n := by
  unfold ovT
  refine Nat.le_trans (List.length_filter_le _ _) ?_
  simp
def nN (d : Dev) : Nat := if DOk d then (nodesN d).toNat else 0
theorem nN_cast (d : Dev) : (if DOk d then nodesN d else 0) = (nN d : Int) := by
  unfold nN
  by_cases h : DOk d
  · have := nodesN_le h
    rw [if_pos h, if_pos h]; omega
  · rw [if_neg h, if_neg h]; rfl
theorem nN_le (d : Dev) : nN d ≤ 828 := by
  unfold nN
  by_cases h : DOk d
  · have := nodesN_le h
    rw [if_pos h]; omega
  · rw [if_neg h]; omega
def ovP (d : Dev) (rs : List Rt) : List Int := ovT (ldT (nN d) rs (-1) rs.length) (nN d)
theorem RouteNodes_impl (d : Dev) : impl_RouteNodes d = some (nN d : Int) := by
  unfold impl_RouteNodes
  rw [devOk_impl, ← nN_cast]
  simp only [Option.bind_some]
  by_cases h : DOk d
  · rw [dt h, if_pos h, routeNodes_impl h]; rfl
  · rw [df h, if_neg h]; rfl
theorem over_spec (d : Dev) (rs : List Rt) (h : RtsOk rs) : spec_Overused (d, rs) = some (ovP d rs) := by
  unfold spec_Overused ovP
  have hN := nN_le d
  dsimp only
  rw [routeNodes_spec, nN_cast]
  simp only [Option.bind_some]
  rw [load_spec (nN d) rs (-1) (by omega) h]
  simp only [Option.bind_some]
  have hl := ldT_len (nN d) rs (-1) rs.length
  generalize ldT (nN d) rs (-1) rs.length = ld at *
  rw [hl]
  refine loop_upto (nN d) (fun k => ((k : Int), ovT ld k)) (fun k hk => ?_) ?_
  · have hov := ovT_len ld k
    dsimp only
    rw [dt (by omega), cond_true, gin_nat hk, gget_some (by omega) (by omega), ovT_succ, wrap_ok (z := (k : Int) + 1) (by omega), gapp_ok (by simp; omega)]
    simp only [Option.bind_some, Int.toNat_natCast]
    by_cases q : 1 < ld.getD k 0
    · rw [dt q, if_pos q]; rfl
    · rw [df q, if_neg q]; rfl
  · dsimp only
    rw [df (by omega), cond_false]; rfl
theorem over_impl (d : Dev) (rs : List Rt) (h : RtsOk rs) : impl_Overused (d, rs) = some (ovP d rs) := by
  unfold impl_Overused ovP
  have hN := nN_le d
  dsimp only
  rw [RouteNodes_impl]
  simp only [Option.bind_some]
  rw [usage_impl (nN d) rs (by omega) h]
  simp only [Option.bind_some]
  have hl := ldT_len (nN d) rs (-1) rs.length
  generalize ldT (nN d) rs (-1) rs.length = ld at *
  rw [hl]
  refine loop_upto (nN d) (fun k => (ovT ld k, (k : Int))) (fun k hk => ?_) ?_
  · have hov := ovT_len ld k
    dsimp only
    rw [dt (by omega), cond_true, gin_nat hk, gget_some (by omega) (by omega), ovT_succ, wrap_ok (z := (k : Int) + 1) (by omega), gapp_ok (by simp; omega)]
    simp only [Option.bind_some, Int.toNat_natCast]
    by_cases q : 1 < ld.getD k 0
    · rw [dt q, if_pos q]; rfl
    · rw [df q, if_neg q]; rfl
  · dsimp only
    rw [df (by omega), cond_false]; rfl
theorem law_FnExactOverused (x : ((Int × (Int × (Int × Int))) × List (List Int × List Int))) (h : InR (tP (tP tI (tP tI (tP tI tI))) (tS 0 (tP (tS 0 tI) (tS 0 tI)))) x) : laws_FnExactOverused x = some true := by
  obtain ⟨d, rs⟩ := x
  obtain ⟨_, ⟨hl, hr⟩⟩ := h
  unfold laws_FnExactOverused laws_toDevice
  simp only
  rcases szRtS_ok rs (Nat.le_trans hl (by decide)) (fun r hm => ⟨Nat.le_trans (hr r hm).1.1 (by decide), Nat.le_trans (hr r hm).2.1 (by decide)⟩) with e | ⟨hb, z, z0, z1, e⟩
  · rw [e]; rfl
  have hok := hb.ok
  rw [e]
  simp only [Option.bind_some]
  rw [df (by omega), cond_false]
  have hlen : (ovP d rs).length ≤ 828 := Nat.le_trans (ovT_len _ _) (nN_le d)
  obtain ⟨r, hr, hr0⟩ := markRtS_ok rs 1 (by omega) (by omega) hb
  simp only [toRtS_ok rs hok, Option.bind_some, over_spec d rs hok, over_impl d rs hok, cond_false, eqRtS_refl rs hok, eqIntS_ok (ovP d rs) (ovP d rs) (by omega), decide_true, Bool.not_true, hr, df (show ¬ (r.1 < 0) by omega)]
  rw [markIntS_ok (ovP d rs) 1 (by omega) (by omega) (by omega)]
  simp only [Option.bind_some, heldIntS_ok 1 (ovP d rs).length (by omega) (by omega) (by omega), df (show ¬ (1 + ((ovP d rs).length : Int) < 0) by omega), cond_false, ne_eq, not_true_eq_false, decide_false]
end Go.Pf
