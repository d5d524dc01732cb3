/-
  Own work. Routing all connections, plainly: loads without one route, their bounds, shared costs.
-/
import Derived.Test.YtjpkedhcbnklmaaGrw
import Derived.Test.YtjpkedhcbnklmaaUse
import Derived.Test.YtjpkedhcbnklmaaCna
import Derived.Test.YtjpkedhcbnklmaaLawConnsOk
namespace Go.Pf
open Go Go.Pu
set_option linter.unusedVariables false

def ldF (N : Nat) (c : List Int) (rs : List Rt) : List Int := rs.foldl (fun c r => cnT N r.1 c r.1.length) c
theorem ldT_fold (N : Nat) (rs : List Rt) : ∀ j, j ≤ rs.length → ldT N rs (-1) j = ldF N (List.replicate N 0) (rs.take j) := by
  intro j
  induction j with
  | zero => intro _; rfl
  | succ j ih =>
    intro hj
    unfold ldT
    rw [if_neg (by omega), ih (by omega), rs_at (show j < rs.length by omega), take_succ' rs j (by omega)]
    unfold ldF
    rw [List.foldl_append]; rfl
theorem ldT_skip (N : Nat) (rs : List Rt) {k : Nat} (hk : k < rs.length) : ∀ j, j ≤ rs.length → ldT N rs (k : Int) j = ldF N (List.replicate N 0) (if j ≤ k then rs.take j else rs.take k ++ (rs.take j).drop (k + 1)) := by
  intro j
  induction j with
  | zero => intro _; rw [if_pos (by omega)]; rfl
  | succ j ih =>
    intro hj
    have ih := ih (by omega)
    unfold ldT
    by_cases c : j = k
    · subst c
      rw [if_pos (Nat.le_refl j)] at ih
      rw [if_pos rfl, ih, if_neg (by omega), List.drop_of_length_le (by rw [List.length_take]; omega), List.append_nil]
    · rw [if_neg (by omega), ih, rs_at (show j < rs.length by omega)]
      by_cases c2 : j < k
      · rw [if_pos (by omega), if_pos (by omega), take_succ' rs j (by omega)]
        unfold ldF
        rw [List.foldl_append]; rfl
      · rw [if_neg (by omega), if_neg (by omega), take_succ' rs j (by omega), List.drop_append_of_le_length (by rw [List.length_take]; omega), ← List.append_assoc]
        unfold ldF
        rw [List.foldl_append (l := _ ++ _)]; rfl
theorem ld_without (N : Nat) (rs : List Rt) {k : Nat} (hk : k < rs.length) : ldT N (rs.take k ++ rs.drop (k + 1)) (-1) (rs.take k ++ rs.drop (k + 1)).length = ldT N rs (k : Int) rs.length := by
  rw [ldT_fold N _ _ (Nat.le_refl _), ldT_skip N rs hk _ (Nat.le_refl _), if_neg (by omega), List.take_length, List.take_length]
theorem cnT_bd {N : Nat} {ns c0 : List Int} {M : Int} (hl : c0.length = N) (hM : 0 ≤ M ∧ M ≤ 1000000) (h : ∀ x, x < N → 0 ≤ nsAt c0 x ∧ nsAt c0 x ≤ M) : ∀ j, j ≤ ns.length → ∀ x, x < N → (0 ≤ nsAt (cnT N ns c0 j) x ∧ nsAt (cnT N ns c0 j) x ≤ M + 1) ∧ ((x : Int) ∉ ns.take j → nsAt (cnT N ns c0 j) x = nsAt c0 x) := by
  intro j
  induction j with
  | zero => intro _ x hx; have := h x hx; exact ⟨⟨this.1, by show nsAt c0 x ≤ _; omega⟩, fun _ => rfl⟩
  | succ j ih =>
    intro hj x hx
    have ih := ih (by omega)
    have hlen := cnT_len N ns c0 j
    unfold cnT
    by_cases q : inN N (nsAt ns j) ∧ nsAt ns j ∉ ns.take j
    · rw [if_pos q]
      have hy : (nsAt ns j).toNat < N := by have := q.1; unfold inN at this; omega
      have hyi : (((nsAt ns j).toNat : Nat) : Int) = nsAt ns j := by have := q.1; unfold inN at this; omega
      obtain ⟨i1, i2⟩ := ih _ hy
      have i2 := i2 (by rw [hyi]; exact q.2)
      have h0 := h _ hy
      have e : (cnT N ns c0 j).getD (nsAt ns j).toNat 0 = nsAt c0 (nsAt ns j).toNat := i2
      rw [e, wrap_ok (by omega)]
      unfold gset
      rw [nsAt_set _ _ (by omega)]
      by_cases c : x = (nsAt ns j).toNat
      · rw [if_pos c]
        refine ⟨⟨by omega, by omega⟩, fun hn => absurd ?_ hn⟩
        rw [take_at (by omega), c, hyi]; simp
      · rw [if_neg c]
        obtain ⟨j1, j2⟩ := ih x hx
        refine ⟨j1, fun hn => j2 fun hm => hn ?_⟩
        rw [take_at (by omega)]
        exact List.mem_append_left _ hm
    · rw [if_neg q]
      obtain ⟨j1, j2⟩ := ih x hx
      refine ⟨j1, fun hn => j2 fun hm => hn ?_⟩
      rw [take_at (by omega)]
      exact List.mem_append_left _ hm
theorem ldT_bd (N : Nat) (rs : List Rt) (skip : Int) : ∀ k : Nat, k ≤ 1000 → ∀ x, x < N → 0 ≤ nsAt (ldT N rs skip k) x ∧ nsAt (ldT N rs skip k) x ≤ k := by
  intro k
  induction k with
  | zero => intro _ x hx; unfold ldT; rw [nsAt_rep N 0 hx]; simp
  | succ k ih =>
    intro hk x hx
    have ih := ih (by omega)
    unfold ldT
    split
    · have := ih x hx; omega
    · have := (cnT_bd (ns := (rs.getD k ([], [])).1) (M := (k : Int)) (ldT_len N rs skip k) (by omega) ih _ (Nat.le_refl _) x hx).1
      omega

def sqV (cs ld : List Int) (p : Int) (i : Nat) : Int :=
  if wrap .i64 (wrap .i64 (10 + cs.getD i 0) + wrap .i64 (p * ld.getD i 0)) < 100000 then wrap .i64 (wrap .i64 (10 + cs.getD i 0) + wrap .i64 (p * ld.getD i 0)) else 100000
def sqT (cs ld : List Int) (p : Int) (n : Nat) : List Int := (List.range n).map (sqV cs ld p)
theorem sqT_succ (cs ld : List Int) (p : Int) (n : Nat) : sqT cs ld p (n + 1) = sqT cs ld p n ++ [sqV cs ld p n] := by
  unfold sqT; rw [List.range_succ, List.map_append]; rfl
theorem sqT_len (cs ld : List Int) (p : Int) (n : Nat) : (sqT cs ld p n).length = n := by simp [sqT]
theorem shc_spec (cs ld : List Int) (p : Int) (h : cs.length = ld.length) (hl : ld.length ≤ 1048576) : spec_l34Costs (cs, (ld, p)) = some (sqT cs ld p ld.length) := by
  unfold spec_l34Costs
  dsimp only
  refine loop_upto ld.length (fun k => ((k : Int), sqT cs ld p k)) (fun k hk => ?_) ?_
  · have hs := sqT_len cs ld p k
    dsimp only
    rw [dt (by omega), cond_true, gget_some (xs := cs) (by omega) (by omega), gget_some (xs := ld) (by omega) (by omega), sqT_succ, wrap_ok (z := (k : Int) + 1) (by omega)]
    simp only [Option.bind_some, Int.toNat_natCast]
    rw [gapp_ok (by simp; omega)]
    rfl
  · dsimp only
    rw [df (by omega), cond_false]; rfl
theorem shc_impl (cs ld : List Int) (p : Int) (h : cs.length = ld.length) (hl : ld.length ≤ 1048576) : impl_sharedCosts (cs, (ld, p)) = some (sqT cs ld p ld.length) := by
  unfold impl_sharedCosts
  dsimp only
  refine loop_upto ld.length (fun k => (sqT cs ld p k, (k : Int))) (fun k hk => ?_) ?_
  · have hs := sqT_len cs ld p k
    dsimp only
    rw [dt (by omega), cond_true, gget_some (xs := cs) (by omega) (by omega), gget_some (xs := ld) (by omega) (by omega), sqT_succ, wrap_ok (z := (k : Int) + 1) (by omega)]
    simp only [Option.bind_some, Int.toNat_natCast]
    rw [gapp_ok (by simp; omega)]
    rfl
  · dsimp only
    rw [df (by omega), cond_false]; rfl
/-- History: what a round may have left. -/
def HsOk (N : Nat) (B : Int) (h : List Int) : Prop := h.length = N ∧ ∀ x, x < N → 0 ≤ nsAt h x ∧ nsAt h x ≤ B
theorem sq_cs {N : Nat} {h ld : List Int} {p : Int} (hh : HsOk N 1000000 h) (hp : 0 ≤ p ∧ p ≤ 1000) (hl : ld.length = N) (hld : ∀ x, x < N → 0 ≤ nsAt ld x ∧ nsAt ld x ≤ 1000) : CsOk N (sqT h ld p N) := by
  refine ⟨sqT_len _ _ _ _, fun v hv => ?_⟩
  have h1 := hh.2 v hv
  have h2 := hld v hv
  have e : nsAt (sqT h ld p N) v = sqV h ld p v := by
    unfold nsAt sqT
    rw [List.getD, List.getElem?_map, List.getElem?_range hv]; rfl
  rw [e]
  unfold sqV
  change 0 ≤ h.getD v 0 ∧ h.getD v 0 ≤ _ at h1
  change 0 ≤ ld.getD v 0 ∧ ld.getD v 0 ≤ _ at h2
  have h3 : 0 ≤ p * ld.getD v 0 := Int.mul_nonneg hp.1 h2.1
  have h4 : p * ld.getD v 0 ≤ 1000 * 1000 := Int.mul_le_mul hp.2 h2.2 h2.1 (by omega)
  rw [wrap_ok (z := 10 + h.getD v 0) (by omega), wrap_ok (z := p * ld.getD v 0) (by omega), wrap_ok (by omega)]
  split <;> omega
end Go.Pf

