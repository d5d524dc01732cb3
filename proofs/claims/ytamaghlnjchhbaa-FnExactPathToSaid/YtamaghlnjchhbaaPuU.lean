/-
  Own work. The translation of code is sound.
-/
import Derived.Test.YtamaghlnjchhbaaPuT
namespace Go.Pu
open Go Go.RowKit
set_option linter.unusedVariables false
section
variable {X : Ctx} {Γ : List FE} {ss : List Sig} {st : St} {ρ : Env} {a : Act} {w : World} {g : G}
theorem next_den {t t' : Ty} {c : List Ty} {r : Ty} {xs : List At} {o : Out (t' :: c) r} (h : (Stm.next t xs).den Γ (t' :: c) r ρ = some o) : ∃ e : t = t', o = .inl (e ▸ (mkv t (xs.map (At.get ρ))).1) := by
  unfold Stm.den at h
  split at h
  · rename_i e; exact ⟨e, (Option.some.inj h).symm⟩
  · cases h
theorem lift_den {t' : Ty} {c : List Ty} {r : Ty} {s : Stm} {o : Out (t' :: c) r} (h : (Stm.lift s).den Γ (t' :: c) r ρ = some o) : ∃ o', o = .inr o' ∧ s.den Γ c r ρ = some o' := by
  unfold Stm.den at h
  rw [Option.map_eq_some_iff] at h
  obtain ⟨o', h1, h2⟩ := h
  exact ⟨o', h2.symm, h1⟩
theorem cJoin_ok (hj : JumpLaw X) {j : Option (Ty × List (Nat × SV) × List RK)} {f : (Exit → St → M Stm) → M Stm} {gk : St → M Stm} {k : Exit → St → M Stm} {s : Stm} {c : List Ty} {r : Ty} {o : Out c r} {C : Code}
    (h : cJoin j st f gk k = .ok s) (hi : TInv X NoD st ρ a w g) (hd : s.den Γ c r ρ = some o)
    (hf : ∀ (k' : Exit → St → M Stm) (s' : Stm), f k' = .ok s' → ∀ (c' : List Ty) (o' : Out c' r), s'.den Γ c' r ρ = some o' → C.wp X.P (BehindE X Γ o' ρ k') a w) : C.wp X.P (BehindE X Γ o ρ (thenK gk k)) a w := by
  unfold cJoin at h
  cases j with
  | none => exact hf _ s h c o hd
  | some j =>
    simp only at h
    obtain ⟨s1, h1, h⟩ := ok_bind h
    obtain ⟨s2, h2, h⟩ := ok_bind h
    simp only [Except.ok.injEq] at h
    subst h
    simp only [Stm.den, joinO, Option.bind_eq_some_iff] at hd
    obtain ⟨o', hd1, hd2⟩ := hd
    refine Code.wp_mono (fun e a' w' hb => ?_) (hf _ s1 h1 (j.1 :: c) o' hd1)
    obtain ⟨st', ρ1, g', s', q1, q2, q3⟩ := hb
    have other : (∀ s'', k e st' = .ok s'' → s' = .lift s'' → thenK gk k e = k e → BehindE X Γ o ρ (thenK gk k) e a' w') := fun s'' hk hs ht => by
      subst hs
      obtain ⟨o'', e1, e2⟩ := lift_den q3
      subst e1
      simp only [Option.some.injEq] at hd2
      subst hd2
      exact ⟨st', ρ1, g', s'', by rw [ht]; exact hk, q2, e2⟩
    cases e with
    | normal =>
      simp only [toJoin] at q1
      obtain ⟨⟨t, xs⟩, hx, q1⟩ := ok_bind q1
      simp only [Except.ok.injEq] at q1
      subst q1
      obtain ⟨e1, e2⟩ := next_den q3
      subst e1 e2
      simp only at hd2
      obtain ⟨g2, hi2⟩ := hj _ _ _ _ ρ ρ1 a' w' g' hx q2 (by show st.ts ++ _ = _; rw [hi.typ])
      exact ⟨headSt st j, _, g2, s2, h2, hi2, hd2⟩
    | exit id => simp only [toJoin] at q1; obtain ⟨s'', hk, q1⟩ := ok_bind q1; simp only [Except.ok.injEq] at q1; exact other s'' hk q1.symm rfl
    | goto l => simp only [toJoin] at q1; obtain ⟨s'', hk, q1⟩ := ok_bind q1; simp only [Except.ok.injEq] at q1; exact other s'' hk q1.symm rfl
    | ret => simp only [toJoin] at q1; obtain ⟨s'', hk, q1⟩ := ok_bind q1; simp only [Except.ok.injEq] at q1; exact other s'' hk q1.symm rfl
    | panic ch => simp only [toJoin] at q1; obtain ⟨s'', hk, q1⟩ := ok_bind q1; simp only [Except.ok.injEq] at q1; exact other s'' hk q1.symm rfl
    | outgrown => simp only [toJoin] at q1; obtain ⟨s'', hk, q1⟩ := ok_bind q1; simp only [Except.ok.injEq] at q1; exact other s'' hk q1.symm rfl
theorem jump_ty {H : St} {t u : Ty} {xs : List At} (hx : jump H st = .ok (t, xs)) (hl : H.ts.getLast? = some u) : t = u := by
  unfold jump at hx
  rw [hl] at hx
  simp only at hx
  split at hx
  · cases hx
  · split at hx
    · cases hx
    · split at hx
      · split at hx
        · cases hx
        · split at hx
          · simp only [Except.ok.injEq, Prod.mk.injEq] at hx; exact hx.1.symm
          · cases hx
      · cases hx
      · cases hx
theorem cLoop_ok (hj : JumpLaw X) {an : Ann} {id : Nat} {rec : St → (Exit → St → M Stm) → M Stm} {k : Exit → St → M Stm} {s : Stm} {c : List Ty} {r : Ty} {o : Out c r} {b : Code}
    (h : cLoop an id rec st k = .ok s) (hi : TInv X NoD st ρ a w g) (hd : s.den Γ c r ρ = some o)
    (hb : ∀ (st' : St) (k' : Exit → St → M Stm) (s' : Stm), rec st' k' = .ok s' → ∀ (c' : List Ty) (o' : Out c' r) (ρ' : Env) (a' : Act) (w' : World) (g' : G), TInv X NoD st' ρ' a' w' g' → s'.den Γ c' r ρ' = some o' → b.wp X.P (BehindE X Γ o' ρ' k') a' w') :
    (Code.loop b).wp X.P (Exit.inBlock id (BehindE X Γ o ρ k)) a w := by
  unfold cLoop at h
  split at h
  case h_2 => cases h
  rename_i hd0 hh
  obtain ⟨⟨t, xs⟩, hx, h⟩ := ok_bind h
  obtain ⟨s1, h1, h⟩ := ok_bind h
  simp only [Except.ok.injEq] at h
  subst h
  simp only [Stm.den] at hd
  rw [loop_iff] at hd
  obtain ⟨n, hn⟩ := hd
  have hts : (headSt st hd0).ts = ρ.map V.t ++ [hd0.1] := by show st.ts ++ _ = _; rw [hi.typ]
  have ht : t = hd0.1 := by
    exact jump_ty hx (by show (st.ts ++ [hd0.1]).getLast? = _; simp)
  subst ht
  have key : ∀ (n : Nat) (x : (hd0.1).den) (a : Act) (w : World) (g : G), TInv X NoD (headSt st hd0) (ρ ++ [⟨hd0.1, x⟩]) a w g →
      iter (fun x : (hd0.1).den => s1.den Γ (hd0.1 :: c) r (ρ ++ [⟨hd0.1, x⟩])) n x = some o → Code.rounds X.P b (Exit.inBlock id (BehindE X Γ o ρ k)) n a w := by
    intro n
    induction n with
    | zero => intro x a w g _ hn; cases hn
    | succ n ih =>
      intro x a w g hi hn
      simp only [iter] at hn
      cases hf : s1.den Γ (hd0.1 :: c) r (ρ ++ [⟨hd0.1, x⟩]) with
      | none => rw [hf] at hn; cases hn
      | some o' =>
        rw [hf] at hn
        refine Code.wp_mono (fun e a' w' hb' => ?_) (hb _ _ s1 h1 (hd0.1 :: c) o' _ a w g hi hf)
        obtain ⟨st', ρ1, g', s', q1, q2, q3⟩ := hb'
        rw [List.append_assoc] at q2 q3
        have other : ∀ (e' : Exit) (s'' : Stm), k e' st' = .ok s'' → s' = .lift s'' → BehindE X Γ o ρ k e' a' w' := fun e' s'' hk hs => by
          subst hs
          obtain ⟨o'', e1, e2⟩ := lift_den q3
          subst e1
          simp only [Option.some.injEq] at hn
          subst hn
          exact ⟨st', _, g', s'', hk, q2, e2⟩
        cases e with
        | normal =>
          simp only [endLoop] at q1
          obtain ⟨⟨t, ys⟩, hx', q1⟩ := ok_bind q1
          simp only [Except.ok.injEq] at q1
          subst q1
          obtain ⟨e1, e2⟩ := next_den q3
          subst e1 e2
          obtain ⟨g2, hi2⟩ := hj _ _ _ _ ρ _ a' w' g' hx' q2 (by show st.ts ++ _ = _; exact hts)
          exact ih _ a' w' g2 hi2 hn
        | exit id' =>
          simp only [endLoop] at q1
          obtain ⟨s'', hk, q1⟩ := ok_bind q1
          simp only [Except.ok.injEq] at q1
          have := other _ s'' hk q1.symm
          show Exit.inBlock id (BehindE X Γ o ρ k) (.exit id') a' w'
          unfold Exit.inBlock
          split at this
          · rename_i e0; simp only [e0, if_true]; exact this
          · rename_i e0; simp only [e0, if_false]; exact this
        | goto l => simp only [endLoop] at q1; obtain ⟨s'', hk, q1⟩ := ok_bind q1; simp only [Except.ok.injEq] at q1; exact other _ s'' hk q1.symm
        | ret => simp only [endLoop] at q1; obtain ⟨s'', hk, q1⟩ := ok_bind q1; simp only [Except.ok.injEq] at q1; exact other _ s'' hk q1.symm
        | panic ch => simp only [endLoop] at q1; obtain ⟨s'', hk, q1⟩ := ok_bind q1; simp only [Except.ok.injEq] at q1; exact other _ s'' hk q1.symm
        | outgrown => simp only [endLoop] at q1; obtain ⟨s'', hk, q1⟩ := ok_bind q1; simp only [Except.ok.injEq] at q1; exact other _ s'' hk q1.symm
  obtain ⟨g2, hi2⟩ := hj _ _ _ _ ρ [] a w g hx (by rw [List.append_nil]; exact hi) hts
  rw [List.append_nil] at hi2
  exact wp_loop_rounds n (key n _ a w g2 hi2 hn)
theorem thenK_self (k : Exit → St → M Stm) : thenK (k .normal) k = k := by
  funext e st; cases e <;> rfl
theorem endBlock_in {c : List Ty} {r : Ty} {o : Out c r} {id : Nat} {k : Exit → St → M Stm} (e : Exit) (h : BehindE X Γ o ρ (endBlock id k) e a w) : Exit.inBlock id (BehindE X Γ o ρ k) e a w := by
  cases e with
  | exit id' =>
    unfold Exit.inBlock
    obtain ⟨st', ρ1, g', s', q1, q2, q3⟩ := h
    simp only [endBlock] at q1
    split at q1
    · rename_i e0; simp only [e0, if_true]; exact ⟨st', ρ1, g', s', q1, q2, q3⟩
    · rename_i e0; simp only [e0, if_false]; exact ⟨st', ρ1, g', s', q1, q2, q3⟩
  | _ => exact h
theorem code_ok (hm : X.P.follows .mixedOrders = true) (hop : OpLaw X Γ ss) (hj : JumpLaw X) {an : Ann} (hN : an.N = X.N) {r : Ty} : ∀ (C : Code) (st : St) (k : Exit → St → M Stm) (s : Stm), cCode X.P ss an C st k = .ok s →
    ∀ (c : List Ty) (o : Out c r) (ρ : Env) (a : Act) (w : World) (g : G), TInv X NoD st ρ a w g → s.den Γ c r ρ = some o → C.wp X.P (BehindE X Γ o ρ k) a w
  | .skip, st, k, s, h, c, o, ρ, a, w, g, hi, hd => wp_skip ⟨st, [], g, s, h, by rw [List.append_nil]; exact hi, by rw [List.append_nil]; exact hd⟩
  | .exit id, st, k, s, h, c, o, ρ, a, w, g, hi, hd => wp_exit ⟨st, [], g, s, h, by rw [List.append_nil]; exact hi, by rw [List.append_nil]; exact hd⟩
  | .ret, st, k, s, h, c, o, ρ, a, w, g, hi, hd => wp_ret ⟨st, [], g, s, h, by rw [List.append_nil]; exact hi, by rw [List.append_nil]; exact hd⟩
  | .region id ops draw, st, k, s, h, c, o, ρ, a, w, g, hi, hd => region_ok hm hop hN h hi hd
  | .seq A B, st, k, s, h, c, o, ρ, a, w, g, hi, hd => by
    simp only [cCode] at h
    refine wp_seq (Code.wp_mono (fun e a' w' hb => ?_) (cJoin_ok hj (C := A) h hi hd fun k' s' hs' c' o' hd' => code_ok hm hop hj hN A st k' s' hs' c' o' ρ a w g hi hd'))
    cases e with
    | normal =>
      obtain ⟨st', ρ1, g', s', q1, q2, q3⟩ := hb
      exact Code.wp_mono (fun e a2 w2 hb2 => behind_trans hb2) (code_ok hm hop hj hN B st' k s' q1 c o _ a' w' g' q2 q3)
    | _ => exact hb
  | .cond x A B, st, k, s, h, c, o, ρ, a, w, g, hi, hd => by
    simp only [cCode] at h
    obtain ⟨y, hy, h⟩ := ok_bind h
    obtain ⟨y1, y2⟩ := boolOf_ok hy
    have hv := val_bool hi y1 y2
    split at h
    · exact wp_cond_true (by rw [hv]; rfl) (code_ok hm hop hj hN A st k s h c o ρ a w g hi hd)
    · exact wp_cond_false (by rw [hv]; rfl) (code_ok hm hop hj hN B st k s h c o ρ a w g hi hd)
    · obtain ⟨s1, h1, h⟩ := ok_bind h
      obtain ⟨s2, h2, h⟩ := ok_bind h
      simp only [Except.ok.injEq] at h
      subst h
      simp only [Stm.den] at hd
      refine wp_cond_split hv (fun hb => ?_) (fun hb => ?_)
      · rw [hb] at hd; exact code_ok hm hop hj hN A st k s1 h1 c o ρ a w g hi hd
      · rw [hb] at hd; exact code_ok hm hop hj hN B st k s2 h2 c o ρ a w g hi hd
  | .block id (.loop b), st, k, s, h, c, o, ρ, a, w, g, hi, hd => by
    simp only [cCode] at h
    have := cJoin_ok hj (C := .block id (.loop b)) h hi hd fun k' s' hs' c' o' hd' => wp_block (cLoop_ok hj hs' hi hd' fun st2 k2 s2 h2 c2 o2 ρ2 a2 w2 g2 hi2 hd2 => code_ok hm hop hj hN b st2 k2 s2 h2 c2 o2 ρ2 a2 w2 g2 hi2 hd2)
    rw [thenK_self] at this
    exact this
  | .block id C, st, k, s, h, c, o, ρ, a, w, g, hi, hd => by
    by_cases hl : ∃ b, C = .loop b
    · obtain ⟨b, rfl⟩ := hl
      simp only [cCode] at h
      have := cJoin_ok hj (C := .block id (.loop b)) h hi hd fun k' s' hs' c' o' hd' => wp_block (cLoop_ok hj hs' hi hd' fun st2 k2 s2 h2 c2 o2 ρ2 a2 w2 g2 hi2 hd2 => code_ok hm hop hj hN b st2 k2 s2 h2 c2 o2 ρ2 a2 w2 g2 hi2 hd2)
      rw [thenK_self] at this
      exact this
    · have h : cJoin (findA an.joins id) st (fun k => cCode X.P ss an C st (endBlock id k)) (k .normal) k = .ok s := by
        cases C <;> first | exact h | exact absurd ⟨_, rfl⟩ hl
      have := cJoin_ok hj (C := .block id C) h hi hd fun k' s' hs' c' o' hd' => wp_block (Code.wp_mono (fun e a' w' hb => endBlock_in e hb) (code_ok hm hop hj hN C st _ s' hs' c' o' ρ a w g hi hd'))
      rw [thenK_self] at this
      exact this
  | .label _, _, _, _, h, _, _, _, _, _, _, _, _ => by simp [cCode] at h
  | .loop _, _, _, _, h, _, _, _, _, _, _, _, _ => by simp [cCode] at h
  | .goto _, _, _, _, h, _, _, _, _, _, _, _, _ => by simp [cCode] at h
  | .scope _, _, _, _, h, _, _, _, _, _, _, _, _ => by simp [cCode] at h
  | .rangeFunc .., _, _, _, h, _, _, _, _, _, _, _, _ => by simp [cCode] at h
end
end Go.Pu
