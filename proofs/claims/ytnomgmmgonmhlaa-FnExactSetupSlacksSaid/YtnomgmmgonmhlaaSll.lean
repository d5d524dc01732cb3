/-
  Own work. Hold and setup slacks, plainly; helpers of their laws.
-/
import Derived.Test.YtnomgmmgonmhlaaSlk
import Derived.Test.YtnomgmmgonmhlaaCna
namespace Go.Pf
open Go Go.Pu
set_option linter.unusedVariables false
theorem eqExc_refl (x : Exc) : laws_eqException (x, x) = some true := by
  unfold laws_eqException
  simp
theorem szExcS_ok (xs : List Exc) (hl : xs.length ≤ 9223372036854775807) : SzOk laws_szExceptionS xs (xs.length ≤ 1048576) := fun b b0 b1 => szleaf xs hl b b0 b1
theorem toExcS_ok (xs : List Exc) (h : xs.length ≤ 1048576) : laws_toExceptionS xs = some xs := toL_ok 24 (0, (0, 0)) laws_toException xs h (by omega) (fun _ _ => rfl)
theorem eqExcS_refl (xs : List Exc) (h : xs.length ≤ 1048576) : laws_eqExceptionS (xs, xs) = some true := eqL_refl (0, (0, 0)) laws_eqException xs (by omega) (fun x _ => eqExc_refl x)
theorem markPtS_ok (xs : List Pt) (k : Int) (hk : 0 ≤ k) (hk2 : k ≤ 1099511627776) (h : xs.length ≤ 1048576) : ∃ r, laws_markPointS (xs, k) = some r ∧ 0 ≤ r.1 ∧ r.1 ≤ k + 2 * xs.length := markPinS_ok xs k hk hk2 h
theorem markExcS_ok (xs : List Exc) (k : Int) (hk : 0 ≤ k) (hk2 : k ≤ 1099511627776) (h : xs.length ≤ 1048576) : ∃ r, laws_markExceptionS (xs, k) = some r ∧ 0 ≤ r.1 ∧ r.1 ≤ k + 3 * xs.length := by
  obtain ⟨r, h1, h2⟩ := markTG_ok (0, xs) k hk hk2 h
  unfold laws_markTimingGraph at h1
  simp only at h1
  cases e : laws_markArcS (xs, k) with
  | none => rw [e] at h1; cases h1
  | some q =>
    rw [e] at h1
    have : q = r := by simpa using h1
    subst this
    exact ⟨q, e, h2⟩
theorem ptsP_all {g : TG} {ps : List Pt} (h : ptsP g ps = true) : timP g = true ∧ ps.length ≤ 100 ∧ ∀ p ∈ ps, ptP g.1 p = true := by
  unfold ptsP at h
  rw [Bool.and_eq_true, Bool.and_eq_true, List.all_eq_true] at h
  exact ⟨h.1, of_decide_eq_true h.2.1, h.2.2⟩
def holdP (g : TG) (ps qs : List Pt) (xs : List Exc) : List Int := if validP g ps qs xs = true then (RR (valS 0) (Dfs g ps 0) xs ps qs ps.length).1 else []
theorem hold_spec (g : TG) (ps qs : List Pt) (xs : List Exc) : spec_HoldSlacks (g, (ps, (qs, xs))) = some (holdP g ps qs xs) := by
  unfold spec_HoldSlacks holdP
  dsimp only
  rw [valid_spec]
  simp only [Option.bind_some]
  by_cases h : validP g ps qs xs = true
  · rw [if_pos h]
    have hv := h
    unfold validP at hv
    rw [Bool.and_eq_true, Bool.and_eq_true] at hv
    obtain ⟨t1, l1, a1⟩ := ptsP_all hv.1
    obtain ⟨_, l2, a2⟩ := ptsP_all hv.2.1
    have hx : xs.length ≤ 50 := by
      have := hv.2.2
      unfold excsP at this; rw [Bool.and_eq_true] at this; exact of_decide_eq_true this.1
    rw [h, slacks_spec g t1 ps qs xs 0 (Or.inl rfl) a1 a2 l1 l2 hx]; rfl
  · rw [if_neg h]
    rw [Bool.not_eq_true] at h
    rw [h]; rfl
theorem hold_impl (g : TG) (ps qs : List Pt) (xs : List Exc) : impl_HoldSlacks (g, (ps, (qs, xs))) = some (holdP g ps qs xs) := by
  unfold impl_HoldSlacks holdP
  dsimp only
  rw [pts_impl, pts_impl, excs_impl]
  simp only [Option.bind_some]
  by_cases h : validP g ps qs xs = true
  · rw [if_pos h]
    unfold validP at h
    rw [Bool.and_eq_true, Bool.and_eq_true] at h
    obtain ⟨t1, l1, a1⟩ := ptsP_all h.1
    obtain ⟨_, l2, a2⟩ := ptsP_all h.2.1
    have e : impl_slacks_66064 (g, (ps, (qs, (xs, (false, ()))))) = some (RR (valS 0) (Dfs g ps 0) xs ps qs ps.length).1 := slacks_impl g t1 ps qs xs false (valS 0) impl_HoldSlacks_cl1 (Dfs g ps 0) (fun i _ => rfl) (fun p q x c hp hq hx hc => by
      unfold impl_HoldSlacks_cl1 valS
      dsimp only
      rw [if_neg (by omega), wrap_ok (z := p.2 + x) (by omega), wrap_ok (by omega)]
      exact ⟨rfl, by omega⟩) a1 a2 l1 l2 h.2.2
    rw [h.1, h.2.1, h.2.2, e]; rfl
  · rw [if_neg h]
    unfold validP at h
    cases h1 : ptsP g ps
    · rfl
    cases h2 : ptsP g qs
    · rfl
    cases h3 : excsP xs
    · rfl
    rw [h1, h2, h3] at h
    exact absurd rfl h
theorem holdP_len (g : TG) (ps qs : List Pt) (xs : List Exc) : (holdP g ps qs xs).length ≤ qs.length := by
  unfold holdP; split
  · rw [(RR_inv _ _ _ _ _ _).1]; omega
  · simp
end Go.Pf
