/-
  Own work. Calls, the way in: what is handed over.
-/
import Derived.Test.YtamaghlnjchhbaaPuX
namespace Go.Pu
open Go Go.RowKit
set_option linter.unusedVariables false
set_option linter.unusedSectionVars false

def posOf : List Nat → Nat → Option Nat
  | [], _ => none
  | x :: xs, r => if x = r then some 0 else (posOf xs r).map (· + 1)
theorem posOf_get : ∀ {R : List Nat} {r j : Nat}, posOf R r = some j → R[j]? = some r
  | [], _, _, h => by cases h
  | x :: xs, r, j, h => by
    simp only [posOf] at h
    split at h
    · rename_i e; cases h; rw [e]; rfl
    · rw [Option.map_eq_some_iff] at h
      obtain ⟨k, hk, rfl⟩ := h
      simpa using posOf_get hk
theorem get_posOf : ∀ {R : List Nat} {r j : Nat}, nodup R = true → R[j]? = some r → posOf R r = some j
  | [], _, _, _, h => by simp at h
  | x :: xs, r, j, hn, h => by
    simp only [nodup, Bool.and_eq_true, Bool.not_eq_true'] at hn
    simp only [posOf]
    cases j with
    | zero => simp only [List.getElem?_cons_zero, Option.some.injEq] at h; rw [if_pos h]
    | succ j =>
      simp only [List.getElem?_cons_succ] at h
      have hne : x ≠ r := fun e => by
        subst e
        have : xs.contains x = true := by simpa using List.mem_of_getElem? h
        rw [this] at hn; cases hn.1
      rw [if_neg hne, get_posOf hn.2 h]; rfl
theorem posOf_none : ∀ {R : List Nat} {r : Nat}, R.contains r = false → posOf R r = none
  | [], _, _ => rfl
  | x :: xs, r, h => by
    simp only [List.contains_cons, Bool.or_eq_false_iff] at h
    simp only [posOf]
    rw [if_neg (fun e => by subst e; simp at h), posOf_none h.2]; rfl
theorem posOf_some : ∀ {R : List Nat} {r : Nat}, R.contains r = true → ∃ j, posOf R r = some j
  | [], _, h => by cases h
  | x :: xs, r, h => by
    simp only [posOf]
    by_cases e : x = r
    · exact ⟨0, if_pos e⟩
    · rw [if_neg e]
      have h2 : xs.contains r = true := by
        simp only [List.contains_cons, Bool.or_eq_true] at h
        rcases h with h | h
        · exact absurd (by simpa using h : r = x).symm e
        · exact h
      obtain ⟨j, hj⟩ := posOf_some h2
      exact ⟨j + 1, by rw [hj]; rfl⟩
/-- What the callee sees: it may read all but what it owns. -/
def lendG (g : G) (R : List Nat) : G :=
  { S := fun b => g.S b ∨ ∃ l, g.own b = some l ∧ R.contains l.1 = false, own := fun b => match g.own b with | some l => (posOf R l.1).map fun j => (j, l.2) | none => none, hdr := fun l => match R[l.1]? with | some r => g.hdr (r, l.2) | none => undef }
theorem lend_own {g : G} {R : List Nat} {b : Nat} {l : Loc} (h : (lendG g R).own b = some l) : ∃ l0, g.own b = some l0 ∧ R.contains l0.1 = true ∧ posOf R l0.1 = some l.1 ∧ l0.2 = l.2 := by
  simp only [lendG] at h
  split at h
  · rename_i l0 h0
    rw [Option.map_eq_some_iff] at h
    obtain ⟨j, hj, rfl⟩ := h
    exact ⟨l0, h0, by simpa using List.mem_of_getElem? (posOf_get hj), hj, rfl⟩
  · cases h
theorem lend_reg {w : World} {g : G} {R : List Nat} {rg : Rg} (h : rgOut R rg = true) : ∀ b, g.reg rg b → (lendG g R).reg none b := fun b hb => by
  cases rg with
  | none => exact .inl hb
  | some r =>
    simp only [rgOut, Bool.not_eq_true'] at h
    rcases hb with hb | ⟨p, hb⟩
    · exact .inl hb
    · exact .inr ⟨(r, p), hb, h⟩
theorem lend_crep {w : World} {g : G} {R : List Nat} {rg : Rg} (h : rgOut R rg = true) {q q' : C} {v : Value} (hq : CRep w g q v) (hr : C.Rel (fun _ _ => False) (fun a b => a = rg ∧ b = none) q q') : CRep w (lendG g R) q' v :=
  hq.rel (fun _ _ h => h.elim) (fun a b ⟨e1, e2⟩ b' hb => by subst e1 e2; exact ⟨lend_reg (w := w) h b' hb, rfl⟩) hr

/-! ### Products -/
theorem prod_proj : ∀ (ts : List Ty) (cs : List (List V)), (∀ (k : Nat) (t : Ty) (c : List V), ts[k]? = some t → cs[k]? = some c → c.length = t.n) → cs.length = ts.length →
    (cs.flatten.length = (prod ts).n) ∧ ∀ (i : Nat) (t : Ty) (c : List V), ts[i]? = some t → cs[i]? = some c → V.proj ⟨prod ts, (mkv (prod ts) cs.flatten).1⟩ (partPath ts.length i) = ⟨t, (mkv t c).1⟩
  | [], [], _, _ => ⟨rfl, fun i t c h => by simp at h⟩
  | [t0], [c0], hl, _ => ⟨by simpa [prod] using hl 0 t0 c0 rfl rfl, fun i t c h1 h2 => by
      cases i with
      | zero =>
        simp only [List.getElem?_cons_zero, Option.some.injEq] at h1 h2
        subst h1 h2
        simp [prod, partPath, V.proj]
      | succ i => simp at h1⟩
  | t0 :: t1 :: ts, c0 :: c1 :: cs, hl, hlen => by
    have h0 := hl 0 t0 c0 rfl rfl
    obtain ⟨e1, e2⟩ := prod_proj (t1 :: ts) (c1 :: cs) (fun k t c q1 q2 => hl (k + 1) t c (by simpa using q1) (by simpa using q2)) (by simpa using hlen)
    have hp : prod (t0 :: t1 :: ts) = .pr t0 (prod (t1 :: ts)) := rfl
    have hlf : (c0 :: c1 :: cs).flatten.length = (prod (t0 :: t1 :: ts)).n := by rw [hp, List.flatten_cons, List.length_append, e1, h0]; rfl
    refine ⟨hlf, fun i t c q1 q2 => ?_⟩
    have hm := mkv_pr t0 (prod (t1 :: ts)) (c0 :: c1 :: cs).flatten (by rw [hlf, hp])
    have ht : (c0 :: c1 :: cs).flatten.take t0.n = c0 := by rw [List.flatten_cons, ← h0, List.take_left]
    have hd : (c0 :: c1 :: cs).flatten.drop t0.n = (c1 :: cs).flatten := by rw [List.flatten_cons, ← h0, List.drop_left]
    rw [ht, hd] at hm
    have hv : (⟨prod (t0 :: t1 :: ts), (mkv (prod (t0 :: t1 :: ts)) (c0 :: c1 :: cs).flatten).1⟩ : V) = ⟨.pr t0 (prod (t1 :: ts)), ((mkv t0 c0).1, (mkv (prod (t1 :: ts)) (c1 :: cs).flatten).1)⟩ := by rw [← hm]; rfl
    rw [hv]
    cases i with
    | zero =>
      simp only [List.getElem?_cons_zero, Option.some.injEq] at q1 q2
      subst q1 q2
      rfl
    | succ i => exact e2 i t c (by simpa using q1) (by simpa using q2)
  | [], _ :: _, _, h => by simp at h
  | _ :: _, [], _, h => by simp at h
  | [_], _ :: _ :: _, _, h => by simp at h
  | _ :: _ :: _, [_], _, h => by simp at h
theorem enc_mk_get : ∀ (t : Ty) (vs : List V) (k : Nat) (u : Ty) (v : V) (q : C), vs.length = t.n → t.leaves[k]? = some u → vs[k]? = some v → (enc none t (mkv t vs).1)[k]? = some q → enc none u (mkv u [v]).1 = [q] := by
  intro t
  induction t with
  | pr a b iha ihb =>
    intro vs k u v q hl q1 q2 q3
    rw [mkv_pr a b vs hl] at q3
    simp only [Ty.n] at hl
    simp only [enc, Ty.leaves, List.getElem?_append, enc_length, leaves_length] at q1 q3
    split at q1
    · rename_i hk
      rw [if_pos hk] at q3
      exact iha (vs.take a.n) k u v q (by simp; omega) q1 (by rw [List.getElem?_take, if_pos hk]; exact q2) q3
    · rename_i hk
      rw [if_neg hk] at q3
      exact ihb (vs.drop a.n) (k - a.n) u v q (by simp; omega) q1 (by rw [List.getElem?_drop, show a.n + (k - a.n) = k from by omega]; exact q2) q3
  | unit => intro vs k u v q hl q1; simp [Ty.leaves] at q1
  | _ =>
    intro vs k u v q hl q1 q2 q3
    have hk : k = 0 := by have := (List.getElem?_eq_some_iff.1 q1).1; simp [Ty.leaves] at this; exact this
    subst hk
    simp only [Ty.leaves, List.getElem?_cons_zero, Option.some.injEq] at q1
    subst q1
    simp only [Ty.n] at hl
    match vs, hl, q2, q3 with
    | [v'], _, q2, q3 =>
      simp only [List.getElem?_cons_zero, Option.some.injEq] at q2
      subst q2
      simp only [enc, List.getElem?_cons_zero, Option.some.injEq] at q3 ⊢
      rw [q3]
section
variable {X : Ctx} {D : Nat → Prop} {Γ : List FE} {st : St} {ρ : Env} {a : Act} {w : World} {g : G} {R : List Nat}
theorem mkv_sl {e : TypeId} {b : Ty} (xs : (Ty.sl e b).den) : (mkv (.sl e b) [⟨.sl e b, xs⟩]).1 = xs := by simp [mkv]
theorem argVal_rep (hi : TInv X D st ρ a w g) {t : Ty} {c : SC} {x : At} {v : Value} (h : st.argVal R t c = .ok x) (hc : CRep w g (c.enc ρ) v) : ∃ q, enc none t (mkv t [x.get ρ]).1 = [q] ∧ CRep w (lendG g R) q v := by
  have fromRo : ∀ (rg : Rg), t.isSl = true → x.ty st.ts = some t → rgOut R rg = true → CRep w g (.ro rg ((x.get ρ).els rg)) v → ∃ q, enc none t (mkv t [x.get ρ]).1 = [q] ∧ CRep w (lendG g R) q v := fun rg hs hx hr hq => by
    have hv := At.ty_get hi.typ hx
    cases t with
    | sl e b =>
      rw [V.list_of hv] at hq ⊢
      generalize (x.get ρ).as (.sl e b) = ys at hq
      refine ⟨.ro none (List.map (enc none b) ys), by simp [mkv, enc], lend_crep hr hq ?_⟩
      exact enc_rel (ml := fun _ _ => False) (mr := fun a b => a = rg ∧ b = none) (.sl e b) (.inr ⟨rfl, rfl⟩) ys 0 _ _ rfl rfl
    | _ => cases hs
  unfold St.argVal at h
  split at h
  · rename_i y
    split at h
    · rename_i hh
      cases h
      obtain ⟨h1, h2⟩ := hh
      have hv := At.ty_get hi.typ h2
      simp only [SC.enc] at hc
      cases t with
      | int k =>
        rw [V.int_of hv] at hc ⊢
        simp only [V.c] at hc
        exact ⟨_, rfl, by simp only [V.int]; cases hc; exact .int _ _⟩
      | bool =>
        rw [V.bool_of hv] at hc ⊢
        simp only [V.c] at hc
        exact ⟨_, rfl, by simp only [V.bool]; cases hc; exact .bool _⟩
      | _ => cases h1
    · cases h
  · split at h
    · rename_i hs
      cases h
      cases t with
      | sl e b =>
        simp only [SC.enc] at hc
        cases hc
        exact ⟨.ro none [], by { show [C.ro none (List.map (enc none b) (mkv (.sl e b) [⟨.sl e b, ([] : List b.den)⟩]).1)] = _; rw [mkv_sl]; rfl }, .ro0 _ _ _⟩
      | _ => cases hs
    · cases h
  · rename_i rg y
    split at h
    · rename_i hh
      cases h
      simp only [SC.enc] at hc
      exact fromRo rg hh.1 hh.2.1 hh.2.2 hc
    · cases h
  · rename_i r
    split at h
    · rename_i e b val nl hr
      split at h
      · rename_i hh
        cases h
        obtain ⟨rfl, hf, hx, hR⟩ := hh
        simp only [SC.enc] at hc
        rw [hd_eq hc]
        have hl := lend hi hr hf
        have hv := At.ty_get hi.typ hx
        have hve : (V.els (some r) (x.get ρ)) = List.map (enc (some r) b) ((x.get ρ).as (.sl e b)) := by
          have := V.list_of hv
          rw [this]; simp only [V.els, V.as_self]
        rw [hd_eq hc] at fromRo
        exact fromRo (some r) rfl hx (by simp only [rgOut]; exact hR) (by rw [hve]; exact hl)
      · cases h
    · cases h
  · split at h
    · rename_i hh
      cases h
      simp only [SC.enc] at hc
      exact fromRo _ hh.1 hh.2.1 (by simp only [rgOut]; exact hh.2.2) (both_r hc)
    · cases h
  · split at h
    · rename_i hh
      cases h
      simp only [SC.enc] at hc
      exact fromRo _ hh.1 hh.2.1 (by simp only [rgOut]; exact hh.2.2) (both_r hc)
    · cases h
  · cases h
theorem argVals_get : ∀ (ts : List Ty) (cs : List SC) (ys : List At), st.argVals R ts cs = .ok ys → cs.length = ts.length ∧ ys.length = ts.length ∧ ∀ (k : Nat) (t : Ty), ts[k]? = some t → ∃ c y, cs[k]? = some c ∧ ys[k]? = some y ∧ st.argVal R t c = .ok y
  | [], [], ys, h => by simp only [St.argVals, Except.ok.injEq] at h; subst h; exact ⟨rfl, rfl, fun k t h => by simp at h⟩
  | t :: ts, c :: cs, ys, h => by
    simp only [St.argVals] at h
    obtain ⟨y, hy, h⟩ := ok_bind h
    obtain ⟨ys', hys, h⟩ := ok_bind h
    simp only [Except.ok.injEq] at h
    subst h
    obtain ⟨e1, e2, e3⟩ := argVals_get ts cs ys' hys
    refine ⟨by simp [e1], by simp [e2], fun k u hu => ?_⟩
    cases k with
    | zero => simp only [List.getElem?_cons_zero, Option.some.injEq] at hu; subst hu; exact ⟨c, y, rfl, rfl, hy⟩
    | succ k => simpa using e3 k u (by simpa using hu)
  | [], _ :: _, _, h => by simp [St.argVals] at h
  | _ :: _, [], _, h => by simp [St.argVals] at h
/-- The cells handed over, as the callee sees them. -/
theorem argVals_rep (hi : TInv X D st ρ a w g) {t : Ty} {cs : List SC} {ys : List At} (h : st.argVals R t.leaves cs = .ok ys) : ys.length = t.n ∧ cs.length = t.n ∧
    ∀ (k : Nat) (q : C), (enc none t (mkv t (ys.map (At.get ρ))).1)[k]? = some q → ∃ c, cs[k]? = some c ∧ ∀ v, CRep w g (c.enc ρ) v → CRep w (lendG g R) q v := by
  obtain ⟨e1, e2, e3⟩ := argVals_get _ _ _ h
  have hl := leaves_length t
  refine ⟨by omega, by omega, fun k q hq => ?_⟩
  have hk : k < t.n := by rw [← enc_length none t (mkv t (ys.map (At.get ρ))).1]; exact (List.getElem?_eq_some_iff.1 hq).1
  have hu : t.leaves[k]? = some (t.leaves[k]'(by omega)) := List.getElem?_eq_getElem (by omega)
  obtain ⟨c, y, h1, h2, h3⟩ := e3 k _ hu
  refine ⟨c, h1, fun v hv => ?_⟩
  obtain ⟨q', q1, q2⟩ := argVal_rep hi h3 hv
  have := enc_mk_get t (ys.map (At.get ρ)) k _ (y.get ρ) q (by rw [List.length_map]; omega) hu (by rw [List.getElem?_map, h2]; rfl) hq
  rw [q1] at this
  cases this
  exact q2
/-- Slot by a flag. -/
theorem slot_rep {P : Program} {ρ' : Env} {g' : G} {agg : Bool} {sv : SV} {cs ds : List SC} {v : Value} (hs : svAgg agg sv = .ok cs) (hr : PRep P w g (sv.enc ρ) v) (hl : ds.length = cs.length)
    (hd : ∀ (k : Nat) (q : C), (encL ρ' ds)[k]? = some q → ∃ c, cs[k]? = some c ∧ ∀ v, CRep w g (c.enc ρ) v → CRep w g' q v) : PRep P w g' ((slotOf agg ds).enc ρ') v := by
  unfold svAgg at hs
  split at hs
  · rename_i c
    split at hs
    · cases hs
    · rename_i hag
      cases hs
      have hag : agg = false := by simpa using hag
      subst hag
      match ds, hl with
      | [d], _ =>
        obtain ⟨c', h1, h2⟩ := hd 0 _ (by simp only [encL]; rfl)
        cases h1
        exact h2 v hr
  · rename_i xs
    split at hs
    · rename_i hag
      cases hs
      subst hag
      obtain ⟨vs, e1, e2, e3⟩ := hr
      refine ⟨vs, e1, by rw [e2, encL_map, encL_map, List.length_map, List.length_map, hl], fun k q hq => ?_⟩
      obtain ⟨c, h1, h2⟩ := hd k q hq
      obtain ⟨u, hu, hc⟩ := e3 k (c.enc ρ) (by rw [encL_map, List.getElem?_map, h1]; rfl)
      exact ⟨u, hu, h2 u hc⟩
    · cases hs
  · cases hs
theorem ptr_rep (hi : TInv X D st ρ a w g) {ρ' : Env} {c : SC} {cs ds : List SC} {v : Value} (hp : st.ptrCells R c = .ok cs) (hr : CRep w g (c.enc ρ) v) (hl : ds.length = cs.length)
    (hd : ∀ (k : Nat) (q : C), (encL ρ' ds)[k]? = some q → ∃ c, cs[k]? = some c ∧ ∀ v, CRep w g (c.enc ρ) v → CRep w (lendG g R) q v) : CRep w (lendG g R) (.rp none (encL ρ' ds)) v := by
  unfold St.ptrCells at hp
  split at hp
  · rename_i r
    split at hp
    · rename_i e cells hrk
      split at hp
      · rename_i hR
        cases hp
        obtain ⟨b, base, f, q1, q2, q3⟩ := box_cells hi hrk
        simp only [SC.enc] at hr
        rw [hd_eq hr, q1]
        refine .rp none _ b base f (lend_reg (w := w) (rg := some r) (by simp only [rgOut]; exact hR) b (.inr ⟨[], q2⟩)) (fun k q hq => ?_) (fun k q hq => ?_)
        · obtain ⟨c, h1, _⟩ := hd k q hq
          exact (q3 k (c.enc ρ) (by rw [encL_map, List.getElem?_map, h1]; rfl)).1
        · obtain ⟨c, h1, h2⟩ := hd k q hq
          exact h2 _ (q3 k (c.enc ρ) (by rw [encL_map, List.getElem?_map, h1]; rfl)).2
      · cases hp
    · cases hp
  · rename_i rg cells
    split at hp
    · rename_i hR
      cases hp
      simp only [SC.enc] at hr
      cases hr with
      | rp _ _ b off f hS hcell hrep =>
        refine .rp none _ b off f (lend_reg (w := w) hR b hS) (fun k q hq => ?_) (fun k q hq => ?_)
        · obtain ⟨c, h1, _⟩ := hd k q hq
          exact hcell k (c.enc ρ) (by rw [encL_map, List.getElem?_map, h1]; rfl)
        · obtain ⟨c, h1, h2⟩ := hd k q hq
          exact h2 _ (hrep k (c.enc ρ) (by rw [encL_map, List.getElem?_map, h1]; rfl))
    · cases hp
  · cases hp

/-! ### What the callee owns for the call -/
theorem ownVals_cons {t : Ty} {ts : List Ty} {c : SC} {cs : List SC} {ys : List At} {rs : List Nat} (h : st.ownVals (t :: ts) (c :: cs) = .ok (ys, rs)) : ∃ y ys' rs', ys = y :: ys' ∧ st.ownVals ts cs = .ok (ys', rs') ∧
    ((t.scalar = true ∧ c = .v y ∧ y.ty st.ts = some t ∧ rs = rs') ∨ (∃ e b r nl, t = .sl e b ∧ c = .h r ∧ st.rk r = .list e b y nl none ∧ b.flat1 = true ∧ y.ty st.ts = some t ∧ rs = r :: rs')) := by
  cases t with
  | sl e b =>
    simp only [St.ownVals] at h
    split at h
    · rename_i r
      split at h
      · rename_i e' b' val nl hr
        obtain ⟨⟨ys', rs'⟩, h1, h⟩ := ok_bind h
        simp only at h
        split at h
        · rename_i hc
          cases h
          obtain ⟨rfl, rfl, hf, ht⟩ := hc
          exact ⟨val, ys', rs', rfl, h1, .inr ⟨_, _, r, nl, rfl, rfl, hr, hf, ht, rfl⟩⟩
        · cases h
      · cases h
    · cases h
  | _ =>
    simp only [St.ownVals] at h
    split at h
    · rename_i x
      obtain ⟨⟨ys', rs'⟩, h1, h⟩ := ok_bind h
      simp only at h
      split at h
      · rename_i hc
        cases h
        exact ⟨x, ys', rs, rfl, h1, .inl ⟨hc.1, rfl, hc.2, rfl⟩⟩
      · cases h
    · cases h
theorem lend_hdr {j r : Nat} (h : R[j]? = some r) (p : List (Nat × Nat)) : (lendG g R).hdr (j, p) = g.hdr (r, p) := by
  simp only [lendG, h]
theorem own_rep (hi : TInv X D st ρ a w g) {ρ' : Env} {nl' : Bool} : ∀ (ls : List (Ty × List Bool)) (cs : List SC) (ys : List At) (rs : List Nat) (r0 : Nat), st.ownVals (ls.map (·.1)) cs = .ok (ys, rs) →
    (∀ (k : Nat) (u : Ty) (pth : List Bool) (y : At), ls[k]? = some (u, pth) → ys[k]? = some y → Ref.get ρ' ⟨0, pth⟩ = ⟨u, (mkv u [y.get ρ]).1⟩) → (∀ j r, rs[j]? = some r → R[r0 + j]? = some r) →
    cs.length = ls.length ∧ ys.length = ls.length ∧ rs.length = ((ls.map (·.1)).filter Ty.isSl).length ∧ (ownCs 0 ls r0).length = ls.length ∧
    (∀ (k : Nat) (q : C), (encL ρ' (ownCs 0 ls r0))[k]? = some q → ∃ c, cs[k]? = some c ∧ ∀ v, CRep w g (c.enc ρ) v → CRep w (lendG g R) q v) ∧
    (∀ (j : Nat) (k' : RK), (ownRs nl' 0 ls)[j]? = some k' → ∃ r e b y pth nl, rs[j]? = some r ∧ st.rk r = .list e b y nl none ∧ b.flat1 = true ∧ k' = .list e b (.r ⟨0, pth⟩) nl' none ∧ (Ref.get ρ' ⟨0, pth⟩).as (.sl e b) = (y.get ρ).as (.sl e b))
  | [], cs, ys, rs, r0, h, hv, hR => by
    cases cs with
    | nil => simp only [List.map_nil, St.ownVals, Except.ok.injEq, Prod.mk.injEq] at h; obtain ⟨rfl, rfl⟩ := h; exact ⟨rfl, rfl, rfl, rfl, fun k q h => by simp [ownCs, encL] at h, fun j k' h => by simp [ownRs] at h⟩
    | cons c cs => simp [St.ownVals] at h
  | (t, pth) :: ls, cs, ys, rs, r0, h, hv, hR => by
    cases cs with
    | nil => cases t <;> simp [St.ownVals] at h
    | cons c cs =>
      simp only [List.map_cons] at h
      obtain ⟨y, ys', rs', rfl, h1, hc⟩ := ownVals_cons h
      have hy := hv 0 t pth y rfl rfl
      rcases hc with ⟨hsc, rfl, hty, rfl⟩ | ⟨e, b, r, nl, rfl, rfl, hrk, hf, hty, rfl⟩
      · obtain ⟨i1, i2, i3, i3', i4, i5⟩ := own_rep (nl' := nl') hi ls cs ys' rs r0 h1 (fun k u p z q1 q2 => hv (k + 1) u p z (by simpa using q1) (by simpa using q2)) hR
        have hcs : ownCs 0 ((t, pth) :: ls) r0 = .v (.r ⟨0, pth⟩) :: ownCs 0 ls r0 := by cases t <;> first | rfl | cases hsc
        have hrs : ownRs nl' 0 ((t, pth) :: ls) = ownRs nl' 0 ls := by cases t <;> first | rfl | cases hsc
        have hns : t.isSl = false := by cases t <;> first | rfl | cases hsc
        refine ⟨by simp [i1], by simp [i2], by simp [i3, hns], by rw [hcs]; simp [i3'], fun k q hq => ?_, fun j k' hk => ?_⟩
        · rw [hcs] at hq
          cases k with
          | zero =>
            simp only [encL, List.getElem?_cons_zero, Option.some.injEq, SC.enc] at hq
            rw [show At.get ρ' (.r ⟨0, pth⟩) = ⟨t, (mkv t [y.get ρ]).1⟩ from hy] at hq
            subst hq
            refine ⟨_, rfl, fun v hv2 => ?_⟩
            have hg := At.ty_get hi.typ hty
            simp only [SC.enc] at hv2
            clear hv i5 hy
            cases t with
            | int kd => rw [V.int_of hg] at hv2 ⊢; simp only [V.c, mkv, V.int] at hv2 ⊢; cases hv2; exact .int _ _
            | bool => rw [V.bool_of hg] at hv2 ⊢; simp only [V.c, mkv, V.bool] at hv2 ⊢; cases hv2; exact .bool _
            | _ => cases hsc
          | succ k => simpa using i4 k q (by simpa [encL] using hq)
        · rw [hrs] at hk; exact i5 j k' hk
      · have hr0 := hR 0 r rfl
        rw [Nat.add_zero] at hr0
        obtain ⟨i1, i2, i3, i3', i4, i5⟩ := own_rep (nl' := nl') hi ls cs ys' rs' (r0 + 1) h1 (fun k u p z q1 q2 => hv (k + 1) u p z (by simpa using q1) (by simpa using q2)) (fun j r' hj => by
          have := hR (j + 1) r' (by simpa using hj)
          rwa [show r0 + 1 + j = r0 + (j + 1) from by omega])
        refine ⟨by simp [i1], by simp [i2], by { have : ((Ty.sl e b) :: ls.map (·.1)).filter Ty.isSl = (Ty.sl e b) :: (ls.map (·.1)).filter Ty.isSl := rfl; simp only [List.map_cons, this, List.length_cons, i3] }, by simp [ownCs, i3'], fun k q hq => ?_, fun j k' hk => ?_⟩
        · cases k with
          | zero =>
            simp only [ownCs, encL, List.getElem?_cons_zero, Option.some.injEq, SC.enc] at hq
            subst hq
            refine ⟨_, rfl, fun v hv => ?_⟩
            simp only [SC.enc] at hv
            exact .hd _ _ ((hd_eq hv).trans (lend_hdr hr0 []).symm)
          | succ k => simpa using i4 k q (by simpa [ownCs, encL] using hq)
        · cases j with
          | zero =>
            simp only [ownRs, List.getElem?_cons_zero, Option.some.injEq] at hk
            subst hk
            refine ⟨r, e, b, y, pth, nl, rfl, hrk, hf, rfl, ?_⟩
            rw [hy, V.as_self]
            have hg := At.ty_get hi.typ hty
            rw [V.list_of hg]
            simp [mkv, V.as_self]
          | succ j => simpa using i5 j k' (by simpa [ownRs] using hk)
end
end Go.Pu
