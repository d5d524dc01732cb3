/-
  Own work. The law, plainly: it says true.
-/
import Derived.Test.YtnomgmmgonmhlaaSll
namespace Go.Pf
open Go Go.Pu
set_option linter.unusedVariables false
def setupP (g : TG) (ps qs : List Pt) (xs : List Exc) (per : Int) : List Int := if validP g ps qs xs = true ∧ (1 ≤ per ∧ per ≤ 1000) then (RR (valS per) (Dfs g ps per) xs ps qs ps.length).1 else []
theorem setup_spec (g : TG) (ps qs : List Pt) (xs : List Exc) (per : Int) : spec_SetupSlacks (g, (ps, (qs, (xs, per)))) = some (setupP g ps qs xs per) := by
  unfold spec_SetupSlacks setupP
  dsimp only
  rw [valid_spec]
  simp only [Option.bind_some]
  by_cases h : validP g ps qs xs = true
  · have hv := h
    unfold validP at hv
    rw [Bool.and_eq_true, Bool.and_eq_true] at hv
    obtain ⟨t1, l1, a1⟩ := ptsP_all hv.1
    obtain ⟨_, l2, a2⟩ := ptsP_all hv.2.1
    have hx : xs.length ≤ 50 := by
      have := hv.2.2
      unfold excsP at this; rw [Bool.and_eq_true] at this; exact of_decide_eq_true this.1
    rw [h, inR_spec]
    simp only [Bool.not_true, cond_false, Option.bind_some, true_and]
    by_cases q : 1 ≤ per ∧ per ≤ 1000
    · rw [dt q, if_pos q, slacks_spec g t1 ps qs xs per (Or.inr (by omega)) a1 a2 l1 l2 hx]; rfl
    · rw [df q, if_neg q]; rfl
  · rw [if_neg (fun e => h e.1)]
    rw [Bool.not_eq_true] at h
    rw [h]; rfl
theorem setup_impl (g : TG) (ps qs : List Pt) (xs : List Exc) (per : Int) : impl_SetupSlacks (g, (ps, (qs, (xs, per)))) = some (setupP g ps qs xs per) := by
  unfold impl_SetupSlacks setupP
  dsimp only
  rw [pts_impl, pts_impl, excs_impl]
  simp only [Option.bind_some]
  by_cases h : validP g ps qs xs = true
  · have hv := h
    unfold validP at hv
    rw [Bool.and_eq_true, Bool.and_eq_true] at hv
    obtain ⟨t1, l1, a1⟩ := ptsP_all hv.1
    obtain ⟨_, l2, a2⟩ := ptsP_all hv.2.1
    rw [hv.1, hv.2.1, hv.2.2, inR_impl]
    simp only [Bool.not_true, cond_false, Option.bind_some, h, true_and]
    by_cases q : 1 ≤ per ∧ per ≤ 1000
    · have hne : per ≠ 0 := by omega
      have e : impl_slacks_68064 (g, (ps, (qs, (xs, (true, per))))) = some (RR (valS per) (Dfs g ps per) xs ps qs ps.length).1 := slacks_impl g t1 ps qs xs true (valS per) (fun v => impl_SetupSlacks_cl1 (v.1, (v.2.1, (v.2.2.1, (v.2.2.2, per))))) (Dfs g ps per) (fun i _ => by unfold Dfs; rw [df hne]; rfl) (fun p q x c hp hq hx hc => by
        have hm1 : 0 ≤ c * per := Int.mul_nonneg hc.1 (by omega)
        have hm2 : c * per ≤ 8 * 1000 := Int.mul_le_mul hc.2 (by omega) (by omega) (by omega)
        unfold impl_SetupSlacks_cl1 valS
        dsimp only
        rw [if_pos (by omega), wrap_ok (z := c * per) (by omega), wrap_ok (z := p.2 + x) (by omega), wrap_ok (z := p.2 + x - q.2) (by omega), wrap_ok (z := c * per + q.2) (by omega), wrap_ok (z := c * per + q.2 - p.2) (by omega), wrap_ok (z := c * per + q.2 - p.2 - x) (by omega), wrap_ok (by omega)]
        exact ⟨by congr 1; omega, by omega⟩) a1 a2 l1 l2 hv.2.2
      rw [dt q, if_pos q, e]; rfl
    · rw [df q, if_neg q]; rfl
  · rw [if_neg (fun e => h e.1)]
    unfold validP at h
    cases h1 : ptsP g ps
    · rfl
    cases h2 : ptsP g qs
    · rfl
    cases h3 : excsP xs
    · rfl
    rw [h1, h2, h3] at h
    exact absurd rfl h
theorem setupP_len (g : TG) (ps qs : List Pt) (xs : List Exc) (per : Int) : (setupP g ps qs xs per).length ≤ qs.length := by
  unfold setupP; split
  · rw [(RR_inv _ _ _ _ _ _).1]; omega
  · simp
theorem setup_law (g : TG) (ps qs : List Pt) (xs : List Exc) (per : Int) (hg : g.2.length ≤ 9223372036854775807) (hp : ps.length ≤ 9223372036854775807) (hq : qs.length ≤ 9223372036854775807) (hx : xs.length ≤ 9223372036854775807) : laws_FnExactSetupSlacks (g, (ps, (qs, (xs, per)))) = some true := by
  unfold laws_FnExactSetupSlacks
  simp only
  rcases szTG_ok g hg 1048576 (by omega) (by omega) with e | ⟨hg, z, z0, z1, e⟩
  · rw [e]; rfl
  rw [e]
  simp only [Option.bind_some]
  rw [df (by omega), cond_false]
  rcases szPointS_ok ps hp z z0 z1 with e | ⟨hp, y, y0, y1, e⟩
  · rw [e]; rfl
  rw [e]
  simp only [Option.bind_some]
  rw [df (by omega), cond_false]
  rcases szPointS_ok qs hq y y0 (by omega) with e | ⟨hq, u, u0, u1, e⟩
  · rw [e]; rfl
  rw [e]
  simp only [Option.bind_some]
  rw [df (by omega), cond_false]
  rcases szExcS_ok xs hx u u0 (by omega) with e | ⟨hx, w, w0, w1, e⟩
  · rw [e]; rfl
  rw [e]
  simp only [Option.bind_some]
  rw [df (by omega), cond_false]
  have hlen : (setupP g ps qs xs per).length ≤ 1048576 := Nat.le_trans (setupP_len g ps qs xs per) hq
  unfold TGOk at hg
  obtain ⟨r1, e1, b1, c1⟩ := markTG_ok g 1 (by omega) (by omega) hg
  obtain ⟨r2, e2, b2, c2⟩ := markPtS_ok ps r1.1 b1 (by omega) hp
  obtain ⟨r3, e3, b3, c3⟩ := markPtS_ok qs r2.1 b2 (by omega) hq
  obtain ⟨r4, e4, b4, c4⟩ := markExcS_ok xs r3.1 b3 (by omega) hx
  simp only [Option.bind_some, toTG_ok g hg, toPointS_ok ps hp, toPointS_ok qs hq, toExcS_ok xs hx, setup_spec, setup_impl, cond_false, eqTG_refl g hg, eqPointS_refl ps hp, eqPointS_refl qs hq, eqExcS_refl xs hx, eqIntS_ok (setupP g ps qs xs per) (setupP g ps qs xs per) (by omega), decide_true, Bool.not_true, e1, e2, e3, e4, df (show ¬ (r4.1 < 0) by omega)]
  rw [markIntS_ok (setupP g ps qs xs per) 1 (by omega) (by omega) hlen]
  simp only [Option.bind_some, heldIntS_ok 1 (setupP g ps qs xs per).length (by omega) (by omega) hlen, df (show ¬ (1 + ((setupP g ps qs xs per).length : Int) < 0) by omega), cond_false, ne_eq, not_true_eq_false, decide_false]
theorem law_FnExactSetupSlacks (x : ((Int × List (Int × (Int × Int))) × (List (Int × Int) × (List (Int × Int) × (List (Int × (Int × Int)) × Int))))) (h : InR (tP (tP tI (tS 0 (tP tI (tP tI tI)))) (tP (tS 0 (tP tI tI)) (tP (tS 0 (tP tI tI)) (tP (tS 0 (tP tI (tP tI tI))) tI)))) x) : laws_FnExactSetupSlacks x = some true := by
  obtain ⟨g, ps, qs, xs, per⟩ := x
  obtain ⟨⟨_, ⟨hg, _⟩⟩, ⟨hp, _⟩, ⟨hq, _⟩, ⟨hx, _⟩, _⟩ := h
  exact setup_law g ps qs xs per (Nat.le_trans hg (by decide)) (Nat.le_trans hp (by decide)) (Nat.le_trans hq (by decide)) (Nat.le_trans hx (by decide))
end Go.Pf
