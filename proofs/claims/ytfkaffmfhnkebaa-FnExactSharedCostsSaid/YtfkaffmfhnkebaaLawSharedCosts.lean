/-
  Own work. The law of shared costs, plainly: it says true.
-/
import Derived.Test.YtfkaffmfhnkebaaLawOverused
namespace Go.Pf
open Go Go.Pu
set_option linter.unusedVariables false
def shV (cs ld : List Int) (p : Int) (i : Nat) : Int :=
  if wrap .i64 (wrap .i64 (10 + cs.getD i 0) + wrap .i64 (p * ld.getD i 0)) < 100000 then wrap .i64 (wrap .i64 (10 + cs.getD i 0) + wrap .i64 (p * ld.getD i 0)) else 100000
def shT (cs ld : List Int) (p : Int) (n : Nat) : List Int := (List.range n).map (shV cs ld p)
theorem shT_succ (cs ld : List Int) (p : Int) (n : Nat) : shT cs ld p (n + 1) = shT cs ld p n ++ [shV cs ld p n] := by
  unfold shT; rw [List.range_succ, List.map_append]; rfl
theorem shT_len (cs ld : List Int) (p : Int) (n : Nat) : (shT cs ld p n).length = n := by simp [shT]
theorem costs_spec (cs ld : List Int) (p : Int) (h : cs.length = ld.length) (hl : ld.length ≤ 1048576) : spec_l34Costs (cs, (ld, p)) = some (shT cs ld p ld.length) := by
  unfold spec_l34Costs
  dsimp only
  refine loop_upto ld.length (fun k => ((k : Int), shT cs ld p k)) (fun k hk => ?_) ?_
  · have hs := shT_len cs ld p k
    dsimp only
    rw [dt (by omega), cond_true, gget_some (xs := cs) (by omega) (by omega), gget_some (xs := ld) (by omega) (by omega), shT_succ, wrap_ok (z := (k : Int) + 1) (by omega)]
    simp only [Option.bind_some, Int.toNat_natCast]
    rw [gapp_ok (by simp; omega)]
    rfl
  · dsimp only
    rw [df (by omega), cond_false]; rfl
theorem costs_impl (cs ld : List Int) (p : Int) (h : cs.length = ld.length) (hl : ld.length ≤ 1048576) : impl_sharedCosts (cs, (ld, p)) = some (shT cs ld p ld.length) := by
  unfold impl_sharedCosts
  dsimp only
  refine loop_upto ld.length (fun k => (shT cs ld p k, (k : Int))) (fun k hk => ?_) ?_
  · have hs := shT_len cs ld p k
    dsimp only
    rw [dt (by omega), cond_true, gget_some (xs := cs) (by omega) (by omega), gget_some (xs := ld) (by omega) (by omega), shT_succ, wrap_ok (z := (k : Int) + 1) (by omega)]
    simp only [Option.bind_some, Int.toNat_natCast]
    rw [gapp_ok (by simp; omega)]
    rfl
  · dsimp only
    rw [df (by omega), cond_false]; rfl
def shP (d : Dev) (cs : List Int) (rs : List Rt) (p : Int) : List Int :=
  if DOk d ∧ rs.length ≤ 100 ∧ (cs.length : Int) = nodesN d ∧ (0 ≤ p ∧ p ≤ 100000) ∧ (cs.all fun c => decide (0 ≤ c ∧ c ≤ 100000)) = true then shT cs (ldT cs.length rs (-1) rs.length) p cs.length else []
theorem shP_len (d : Dev) (cs : List Int) (rs : List Rt) (p : Int) : (shP d cs rs p).length ≤ cs.length := by
  unfold shP; split
  · rw [shT_len]; omega
  · simp
theorem sh_spec (d : Dev) (cs : List Int) (rs : List Rt) (p : Int) (h : RtsOk rs) : spec_SharedCosts (d, (cs, (rs, p))) = some (shP d cs rs p) := by
  unfold spec_SharedCosts shP
  dsimp only
  rw [devOk_spec]
  simp only [Option.bind_some]
  by_cases hd : DOk d
  rotate_left
  · rw [df hd, if_neg (fun e => hd e.1)]; rfl
  rw [dt hd, routeNodes_spec, if_pos hd]
  simp only [Bool.not_true, cond_false, Option.bind_some]
  have hn := nodesN_le hd
  by_cases h1 : rs.length ≤ 100
  rotate_left
  · rw [dt (by omega), cond_true, if_neg (fun e => h1 e.2.1)]
  rw [df (by omega), cond_false]
  by_cases h2 : (cs.length : Int) = nodesN d
  rotate_left
  · rw [dt h2, cond_true, if_neg (fun e => h2 e.2.2.1)]
  rw [df (by omega), cond_false, inR_spec]
  simp only [Option.bind_some]
  by_cases h3 : 0 ≤ p ∧ p ≤ 100000
  rotate_left
  · rw [df h3, if_neg (fun e => h3 e.2.2.2.1)]; rfl
  rw [dt h3]
  simp only [Bool.not_true, cond_false]
  refine Eq.trans (loop_all cs.length (fun k : Nat => (k : Int)) (fun k => if h : k < cs.length then decide (0 ≤ cs[k] ∧ cs[k] ≤ 100000) else true) [] (shT cs (ldT cs.length rs (-1) rs.length) p cs.length) (fun k hk hok => ?_) (fun k hk hok => ?_) ?_) ?_
  · rw [dif_pos hk] at hok
    try dsimp only
    rw [dt (by omega), cond_true, gget_nat hk]
    simp only [Option.bind_some]
    rw [inR_spec, hok]
    simp only [Option.bind_some, Bool.not_true, cond_false]
    rw [wrap_ok (by omega)]; rfl
  · rw [dif_pos hk] at hok
    try dsimp only
    rw [dt (by omega), cond_true, gget_nat hk]
    simp only [Option.bind_some]
    rw [inR_spec, hok]; rfl
  · try dsimp only
    have hl := ldT_len cs.length rs (-1) rs.length
    have e := costs_spec cs (ldT cs.length rs (-1) rs.length) p hl.symm (by omega)
    rw [hl] at e
    rw [df (by omega), cond_false, load_spec cs.length rs (-1) (by omega) h]
    simp only [Option.bind_some]
    rw [e]; rfl
  · rw [all_range_list cs (fun c => decide (0 ≤ c ∧ c ≤ 100000)) _ (fun k hk => by rw [dif_pos hk])]
    by_cases ha : (cs.all fun c => decide (0 ≤ c ∧ c ≤ 100000)) = true
    · rw [if_pos ha, if_pos ⟨hd, h1, h2, h3, ha⟩]
    · rw [if_neg ha, if_neg (fun e => ha e.2.2.2.2)]
theorem sh_impl (d : Dev) (cs : List Int) (rs : List Rt) (p : Int) (h : RtsOk rs) : impl_SharedCosts (d, (cs, (rs, p))) = some (shP d cs rs p) := by
  unfold impl_SharedCosts shP
  dsimp only
  rw [devOk_impl]
  simp only [Option.bind_some]
  by_cases hd : DOk d
  rotate_left
  · rw [df hd, if_neg (fun e => hd e.1)]; rfl
  rw [dt hd, routeNodes_impl hd]
  simp only [Bool.not_true, cond_false, Option.bind_some]
  have hn := nodesN_le hd
  by_cases h1 : rs.length ≤ 100
  rotate_left
  · rw [dt (by omega), cond_true, if_neg (fun e => h1 e.2.1)]
  rw [df (by omega), cond_false]
  by_cases h2 : (cs.length : Int) = nodesN d
  rotate_left
  · rw [dt h2, cond_true, if_neg (fun e => h2 e.2.2.1)]
  rw [df (by omega), cond_false, inR_impl]
  simp only [Option.bind_some]
  by_cases h3 : 0 ≤ p ∧ p ≤ 100000
  rotate_left
  · rw [df h3, if_neg (fun e => h3 e.2.2.2.1)]; rfl
  rw [dt h3]
  simp only [Bool.not_true, cond_false]
  refine Eq.trans (loop_all cs.length (fun k : Nat => (k : Int)) (fun k => if h : k < cs.length then decide (0 ≤ cs[k] ∧ cs[k] ≤ 100000) else true) [] (shT cs (ldT cs.length rs (-1) rs.length) p cs.length) (fun k hk hok => ?_) (fun k hk hok => ?_) ?_) ?_
  · rw [dif_pos hk] at hok
    try dsimp only
    rw [dt (by omega), cond_true, gget_nat hk]
    simp only [Option.bind_some]
    rw [inR_impl, hok]
    simp only [Option.bind_some, Bool.not_true, cond_false]
    rw [wrap_ok (by omega)]; rfl
  · rw [dif_pos hk] at hok
    try dsimp only
    rw [dt (by omega), cond_true, gget_nat hk]
    simp only [Option.bind_some]
    rw [inR_impl, hok]; rfl
  · try dsimp only
    have hl := ldT_len cs.length rs (-1) rs.length
    have e := costs_impl cs (ldT cs.length rs (-1) rs.length) p hl.symm (by omega)
    rw [hl] at e
    rw [df (by omega), cond_false, ← h2, usage_impl cs.length rs (by omega) h]
    simp only [Option.bind_some]
    rw [e]; rfl
  · rw [all_range_list cs (fun c => decide (0 ≤ c ∧ c ≤ 100000)) _ (fun k hk => by rw [dif_pos hk])]
    by_cases ha : (cs.all fun c => decide (0 ≤ c ∧ c ≤ 100000)) = true
    · rw [if_pos ha, if_pos ⟨hd, h1, h2, h3, ha⟩]
    · rw [if_neg ha, if_neg (fun e => ha e.2.2.2.2)]
theorem law_FnExactSharedCosts (x : ((Int × (Int × (Int × Int))) × (List Int × (List (List Int × List Int) × Int)))) (h : InR (tP (tP tI (tP tI (tP tI tI))) (tP (tS 0 tI) (tP (tS 0 (tP (tS 0 tI) (tS 0 tI))) tI))) x) : laws_FnExactSharedCosts x = some true := by
  obtain ⟨d, cs, rs, p⟩ := x
  obtain ⟨_, _, ⟨hl, hr⟩, _⟩ := h
  unfold laws_FnExactSharedCosts laws_toDevice
  simp only
  by_cases h1 : 1048576 < (cs.length : Int)
  · rw [dt h1]; rfl
  rw [df h1, cond_false]
  rcases szRtS_ok rs (Nat.le_trans hl (by decide)) (fun r hm => ⟨Nat.le_trans (hr r hm).1.1 (by decide), Nat.le_trans (hr r hm).2.1 (by decide)⟩) with e | ⟨hb, z, z0, z1, e⟩
  · rw [e]; rfl
  have hok := hb.ok
  rw [e]
  simp only [Option.bind_some]
  rw [df (by omega), cond_false]
  have hlen : (shP d cs rs p).length ≤ 1048576 := Nat.le_trans (shP_len d cs rs p) (by omega)
  obtain ⟨r, hr, hr0⟩ := markRtS_ok rs (1 + (cs.length : Int)) (by omega) (by omega) hb
  simp only [toIntS_ok cs (by omega), toRtS_ok rs hok, Option.bind_some, sh_spec d cs rs p hok, sh_impl d cs rs p hok, cond_false, eqIntS_ok cs cs (by omega), eqRtS_refl rs hok, eqIntS_ok (shP d cs rs p) (shP d cs rs p) (by omega), decide_true, Bool.not_true]
  rw [markIntS_ok cs 1 (by omega) (by omega) (by omega)]
  simp only [Option.bind_some, hr, df (show ¬ (r.1 < 0) by omega), cond_false]
  rw [markIntS_ok (shP d cs rs p) 1 (by omega) (by omega) hlen]
  simp only [Option.bind_some, heldIntS_ok 1 (shP d cs rs p).length (by omega) (by omega) hlen, df (show ¬ (1 + ((shP d cs rs p).length : Int) < 0) by omega), cond_false, ne_eq, not_true_eq_false, decide_false]
end Go.Pf
