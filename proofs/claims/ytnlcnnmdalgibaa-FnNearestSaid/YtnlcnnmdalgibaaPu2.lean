/-
  Own work: parts PuY, PuZ, PuAa, PuAb, PuBa, PuBb, PuBc, PuBd, PuBe, PuBf, PuBg, PuBh, PuBi of my verified compiler.
-/
import Derived.Test.YtnlcnnmdalgibaaPu1
import Derived.MapKept
/-
  Own work. Calls, the way in: what is handed over.
-/
namespace Go.Pu
open Go Go.RowKit
set_option linter.unusedVariables false
set_option linter.unusedSectionVars false

def posOf : List Nat → Nat → Option Nat
  | [], _ => none
  | x :: xs, r => if x = r then some 0 else (posOf xs r).map (· + 1)
theorem posOf_get : ∀ {R : List Nat} {r j : Nat}, posOf R r = some j → R[j]? = some r
  | [], _, _, h => by cases h
  | x :: xs, r, j, h => by
    simp only [posOf] at h
    split at h
    · rename_i e; cases h; rw [e]; rfl
    · rw [Option.map_eq_some_iff] at h
      obtain ⟨k, hk, rfl⟩ := h
      simpa using posOf_get hk
theorem get_posOf : ∀ {R : List Nat} {r j : Nat}, nodup R = true → R[j]? = some r → posOf R r = some j
  | [], _, _, _, h => by simp at h
  | x :: xs, r, j, hn, h => by
    simp only [nodup, Bool.and_eq_true, Bool.not_eq_true'] at hn
    simp only [posOf]
    cases j with
    | zero => simp only [List.getElem?_cons_zero, Option.some.injEq] at h; rw [if_pos h]
    | succ j =>
      simp only [List.getElem?_cons_succ] at h
      have hne : x ≠ r := fun e => by
        subst e
        have : xs.contains x = true := by simpa using List.mem_of_getElem? h
        rw [this] at hn; cases hn.1
      rw [if_neg hne, get_posOf hn.2 h]; rfl
theorem posOf_none : ∀ {R : List Nat} {r : Nat}, R.contains r = false → posOf R r = none
  | [], _, _ => rfl
  | x :: xs, r, h => by
    simp only [List.contains_cons, Bool.or_eq_false_iff] at h
    simp only [posOf]
    rw [if_neg (fun e => by subst e; simp at h), posOf_none h.2]; rfl
theorem posOf_some : ∀ {R : List Nat} {r : Nat}, R.contains r = true → ∃ j, posOf R r = some j
  | [], _, h => by cases h
  | x :: xs, r, h => by
    simp only [posOf]
    by_cases e : x = r
    · exact ⟨0, if_pos e⟩
    · rw [if_neg e]
      have h2 : xs.contains r = true := by
        simp only [List.contains_cons, Bool.or_eq_true] at h
        rcases h with h | h
        · exact absurd (by simpa using h : r = x).symm e
        · exact h
      obtain ⟨j, hj⟩ := posOf_some h2
      exact ⟨j + 1, by rw [hj]; rfl⟩
/-- What the callee sees: it may read all but what it owns. -/
def lendG (g : G) (R : List Nat) : G :=
  { S := fun b => g.S b ∨ ∃ l, g.own b = some l ∧ R.contains l.1 = false, own := fun b => match g.own b with | some l => (posOf R l.1).map fun j => (j, l.2) | none => none, hdr := fun l => match R[l.1]? with | some r => g.hdr (r, l.2) | none => undef }
theorem lend_own {g : G} {R : List Nat} {b : Nat} {l : Loc} (h : (lendG g R).own b = some l) : ∃ l0, g.own b = some l0 ∧ R.contains l0.1 = true ∧ posOf R l0.1 = some l.1 ∧ l0.2 = l.2 := by
  simp only [lendG] at h
  split at h
  · rename_i l0 h0
    rw [Option.map_eq_some_iff] at h
    obtain ⟨j, hj, rfl⟩ := h
    exact ⟨l0, h0, by simpa using List.mem_of_getElem? (posOf_get hj), hj, rfl⟩
  · cases h
theorem lend_reg {w : World} {g : G} {R : List Nat} {rg : Rg} (h : rgOut R rg = true) : ∀ b, g.reg rg b → (lendG g R).reg none b := fun b hb => by
  cases rg with
  | none => exact .inl hb
  | some r =>
    simp only [rgOut, Bool.not_eq_true'] at h
    rcases hb with hb | ⟨p, hb⟩
    · exact .inl hb
    · exact .inr ⟨(r, p), hb, h⟩
theorem lend_crep {w : World} {g : G} {R : List Nat} {rg : Rg} (h : rgOut R rg = true) {q q' : C} {v : Value} (hq : CRep w g q v) (hr : C.Rel (fun _ _ => False) (fun a b => a = rg ∧ b = none) q q') : CRep w (lendG g R) q' v :=
  hq.rel (fun _ _ h => h.elim) (fun a b ⟨e1, e2⟩ b' hb => by subst e1 e2; exact ⟨lend_reg (w := w) h b' hb, rfl⟩) hr

/-! ### Products -/
theorem prod_proj : ∀ (ts : List Ty) (cs : List (List V)), (∀ (k : Nat) (t : Ty) (c : List V), ts[k]? = some t → cs[k]? = some c → c.length = t.n) → cs.length = ts.length →
    (cs.flatten.length = (prod ts).n) ∧ ∀ (i : Nat) (t : Ty) (c : List V), ts[i]? = some t → cs[i]? = some c → V.proj ⟨prod ts, (mkv (prod ts) cs.flatten).1⟩ (partPath ts.length i) = ⟨t, (mkv t c).1⟩
  | [], [], _, _ => ⟨rfl, fun i t c h => by simp at h⟩
  | [t0], [c0], hl, _ => ⟨by simpa [prod] using hl 0 t0 c0 rfl rfl, fun i t c h1 h2 => by
      cases i with
      | zero =>
        simp only [List.getElem?_cons_zero, Option.some.injEq] at h1 h2
        subst h1 h2
        simp [prod, partPath, V.proj]
      | succ i => simp at h1⟩
  | t0 :: t1 :: ts, c0 :: c1 :: cs, hl, hlen => by
    have h0 := hl 0 t0 c0 rfl rfl
    obtain ⟨e1, e2⟩ := prod_proj (t1 :: ts) (c1 :: cs) (fun k t c q1 q2 => hl (k + 1) t c (by simpa using q1) (by simpa using q2)) (by simpa using hlen)
    have hp : prod (t0 :: t1 :: ts) = .pr t0 (prod (t1 :: ts)) := rfl
    have hlf : (c0 :: c1 :: cs).flatten.length = (prod (t0 :: t1 :: ts)).n := by rw [hp, List.flatten_cons, List.length_append, e1, h0]; rfl
    refine ⟨hlf, fun i t c q1 q2 => ?_⟩
    have hm := mkv_pr t0 (prod (t1 :: ts)) (c0 :: c1 :: cs).flatten (by rw [hlf, hp])
    have ht : (c0 :: c1 :: cs).flatten.take t0.n = c0 := by rw [List.flatten_cons, ← h0, List.take_left]
    have hd : (c0 :: c1 :: cs).flatten.drop t0.n = (c1 :: cs).flatten := by rw [List.flatten_cons, ← h0, List.drop_left]
    rw [ht, hd] at hm
    have hv : (⟨prod (t0 :: t1 :: ts), (mkv (prod (t0 :: t1 :: ts)) (c0 :: c1 :: cs).flatten).1⟩ : V) = ⟨.pr t0 (prod (t1 :: ts)), ((mkv t0 c0).1, (mkv (prod (t1 :: ts)) (c1 :: cs).flatten).1)⟩ := by rw [← hm]; rfl
    rw [hv]
    cases i with
    | zero =>
      simp only [List.getElem?_cons_zero, Option.some.injEq] at q1 q2
      subst q1 q2
      rfl
    | succ i => exact e2 i t c (by simpa using q1) (by simpa using q2)
  | [], _ :: _, _, h => by simp at h
  | _ :: _, [], _, h => by simp at h
  | [_], _ :: _ :: _, _, h => by simp at h
  | _ :: _ :: _, [_], _, h => by simp at h
theorem enc_mk_get : ∀ (t : Ty) (vs : List V) (k : Nat) (u : Ty) (v : V) (q : C), vs.length = t.n → t.leaves[k]? = some u → vs[k]? = some v → (enc none t (mkv t vs).1)[k]? = some q → enc none u (mkv u [v]).1 = [q] := by
  intro t
  induction t with
  | pr a b iha ihb =>
    intro vs k u v q hl q1 q2 q3
    rw [mkv_pr a b vs hl] at q3
    simp only [Ty.n] at hl
    simp only [enc, Ty.leaves, List.getElem?_append, enc_length, leaves_length] at q1 q3
    split at q1
    · rename_i hk
      rw [if_pos hk] at q3
      exact iha (vs.take a.n) k u v q (by simp; omega) q1 (by rw [List.getElem?_take, if_pos hk]; exact q2) q3
    · rename_i hk
      rw [if_neg hk] at q3
      exact ihb (vs.drop a.n) (k - a.n) u v q (by simp; omega) q1 (by rw [List.getElem?_drop, show a.n + (k - a.n) = k from by omega]; exact q2) q3
  | unit => intro vs k u v q hl q1; simp [Ty.leaves] at q1
  | _ =>
    intro vs k u v q hl q1 q2 q3
    have hk : k = 0 := by have := (List.getElem?_eq_some_iff.1 q1).1; simp [Ty.leaves] at this; exact this
    subst hk
    simp only [Ty.leaves, List.getElem?_cons_zero, Option.some.injEq] at q1
    subst q1
    simp only [Ty.n] at hl
    match vs, hl, q2, q3 with
    | [v'], _, q2, q3 =>
      simp only [List.getElem?_cons_zero, Option.some.injEq] at q2
      subst q2
      simp only [enc, List.getElem?_cons_zero, Option.some.injEq] at q3 ⊢
      rw [q3]
section
variable {X : Ctx} {D : Nat → Prop} {Γ : List FE} {st : St} {ρ : Env} {a : Act} {w : World} {g : G} {R : List Nat}
theorem mkv_sl {e : TypeId} {b : Ty} (xs : (Ty.sl e b).den) : (mkv (.sl e b) [⟨.sl e b, xs⟩]).1 = xs := by simp [mkv]
theorem argVal_rep (hi : TInv X D st ρ a w g) {t : Ty} {c : SC} {x : At} {v : Value} (h : st.argVal R t c = .ok x) (hc : CRep w g (c.enc ρ) v) : ∃ q, enc none t (mkv t [x.get ρ]).1 = [q] ∧ CRep w (lendG g R) q v := by
  have fromRo : ∀ (rg : Rg), t.isSl = true → x.ty st.ts = some t → rgOut R rg = true → CRep w g (.ro rg ((x.get ρ).els rg)) v → ∃ q, enc none t (mkv t [x.get ρ]).1 = [q] ∧ CRep w (lendG g R) q v := fun rg hs hx hr hq => by
    have hv := At.ty_get hi.typ hx
    cases t with
    | sl e b =>
      rw [V.list_of hv] at hq ⊢
      generalize (x.get ρ).as (.sl e b) = ys at hq
      refine ⟨.ro none (List.map (enc none b) ys), by simp [mkv, enc], lend_crep hr hq ?_⟩
      exact enc_rel (ml := fun _ _ => False) (mr := fun a b => a = rg ∧ b = none) (.sl e b) (.inr ⟨rfl, rfl⟩) ys 0 _ _ rfl rfl
    | _ => cases hs
  unfold St.argVal at h
  split at h
  · rename_i y
    split at h
    · rename_i hh
      cases h
      obtain ⟨h1, h2⟩ := hh
      have hv := At.ty_get hi.typ h2
      simp only [SC.enc] at hc
      cases t with
      | int k =>
        rw [V.int_of hv] at hc ⊢
        simp only [V.c] at hc
        exact ⟨_, rfl, by simp only [V.int]; cases hc; exact .int _ _⟩
      | bool =>
        rw [V.bool_of hv] at hc ⊢
        simp only [V.c] at hc
        exact ⟨_, rfl, by simp only [V.bool]; cases hc; exact .bool _⟩
      | _ => cases h1
    · cases h
  · split at h
    · rename_i hs
      cases h
      cases t with
      | sl e b =>
        simp only [SC.enc] at hc
        cases hc
        exact ⟨.ro none [], by { show [C.ro none (List.map (enc none b) (mkv (.sl e b) [⟨.sl e b, ([] : List b.den)⟩]).1)] = _; rw [mkv_sl]; rfl }, .ro0 _ _ _⟩
      | _ => cases hs
    · cases h
  · rename_i rg y
    split at h
    · rename_i hh
      cases h
      simp only [SC.enc] at hc
      exact fromRo rg hh.1 hh.2.1 hh.2.2 hc
    · cases h
  · rename_i r
    split at h
    · rename_i e b val nl hr
      split at h
      · rename_i hh
        cases h
        obtain ⟨rfl, hf, hx, hR⟩ := hh
        simp only [SC.enc] at hc
        rw [hd_eq hc]
        have hl := lend hi hr hf
        have hv := At.ty_get hi.typ hx
        have hve : (V.els (some r) (x.get ρ)) = List.map (enc (some r) b) ((x.get ρ).as (.sl e b)) := by
          have := V.list_of hv
          rw [this]; simp only [V.els, V.as_self]
        rw [hd_eq hc] at fromRo
        exact fromRo (some r) rfl hx (by simp only [rgOut]; exact hR) (by rw [hve]; exact hl)
      · cases h
    · rename_i e b val nl r2 hr
      split at h
      · rename_i hh
        cases h
        obtain ⟨rfl, hx, hR, hR2⟩ := hh
        simp only [SC.enc] at hc
        rw [hd_eq hc]
        have hv := At.ty_get hi.typ hx
        have hro := row_ro (row_of hi hr)
        rw [V.list_of hv]
        generalize (x.get ρ).as (.sl e b) = ys at hro
        refine ⟨.ro none (List.map (enc none b) ys), by simp [mkv, enc], hro.rel (ml := fun _ _ => False) (mr := fun p q => rgOut R p = true ∧ q = none) (fun _ _ h => h.elim) (fun p q ⟨h1, e2⟩ b' hb => by subst e2; exact ⟨lend_reg (w := w) h1 b' hb, rfl⟩) (.ro _ _ _ _ (by simp) (fun _ => ⟨by simp only [rgOut]; exact hR, rfl⟩) (fun i cs cs' q1 q2 => ?_) (fun i cs cs' k y y' q1 q2 q3 q4 => ?_))⟩
        · rw [List.getElem?_mapIdx, Option.map_eq_some_iff] at q1
          rw [List.getElem?_map, Option.map_eq_some_iff] at q2
          obtain ⟨z, hz, rfl⟩ := q1
          obtain ⟨z', hz', rfl⟩ := q2
          simp only [encIn, enc_length]
        · rw [List.getElem?_mapIdx, Option.map_eq_some_iff] at q1
          rw [List.getElem?_map, Option.map_eq_some_iff] at q2
          obtain ⟨z, hz, rfl⟩ := q1
          obtain ⟨z', hz', rfl⟩ := q2
          rw [hz] at hz'; cases hz'
          exact enc_rel b (.inr ⟨by simp only [rgOut]; exact hR2, rfl⟩) z k y y' q3 q4
      · cases h
    · cases h
  · split at h
    · rename_i hh
      cases h
      simp only [SC.enc] at hc
      exact fromRo _ hh.1 hh.2.1 (by simp only [rgOut]; exact hh.2.2) (both_r hc)
    · cases h
  · split at h
    · rename_i hh
      cases h
      simp only [SC.enc] at hc
      exact fromRo _ hh.1 hh.2.1 (by simp only [rgOut]; exact hh.2.2) (both_r hc)
    · cases h
  · split at h
    · rename_i hh
      cases h
      simp only [SC.enc] at hc
      exact fromRo none hh.1 hh.2 rfl (both_r hc)
    · cases h
  · cases h
theorem argVals_get : ∀ (ts : List Ty) (cs : List SC) (ys : List At), st.argVals R ts cs = .ok ys → cs.length = ts.length ∧ ys.length = ts.length ∧ ∀ (k : Nat) (t : Ty), ts[k]? = some t → ∃ c y, cs[k]? = some c ∧ ys[k]? = some y ∧ st.argVal R t c = .ok y
  | [], [], ys, h => by simp only [St.argVals, Except.ok.injEq] at h; subst h; exact ⟨rfl, rfl, fun k t h => by simp at h⟩
  | t :: ts, c :: cs, ys, h => by
    simp only [St.argVals] at h
    obtain ⟨y, hy, h⟩ := ok_bind h
    obtain ⟨ys', hys, h⟩ := ok_bind h
    simp only [Except.ok.injEq] at h
    subst h
    obtain ⟨e1, e2, e3⟩ := argVals_get ts cs ys' hys
    refine ⟨by simp [e1], by simp [e2], fun k u hu => ?_⟩
    cases k with
    | zero => simp only [List.getElem?_cons_zero, Option.some.injEq] at hu; subst hu; exact ⟨c, y, rfl, rfl, hy⟩
    | succ k => simpa using e3 k u (by simpa using hu)
  | [], _ :: _, _, h => by simp [St.argVals] at h
  | _ :: _, [], _, h => by simp [St.argVals] at h
/-- The cells handed over, as the callee sees them. -/
theorem argVals_rep (hi : TInv X D st ρ a w g) {t : Ty} {cs : List SC} {ys : List At} (h : st.argVals R t.leaves cs = .ok ys) : ys.length = t.n ∧ cs.length = t.n ∧
    ∀ (k : Nat) (q : C), (enc none t (mkv t (ys.map (At.get ρ))).1)[k]? = some q → ∃ c, cs[k]? = some c ∧ ∀ v, CRep w g (c.enc ρ) v → CRep w (lendG g R) q v := by
  obtain ⟨e1, e2, e3⟩ := argVals_get _ _ _ h
  have hl := leaves_length t
  refine ⟨by omega, by omega, fun k q hq => ?_⟩
  have hk : k < t.n := by rw [← enc_length none t (mkv t (ys.map (At.get ρ))).1]; exact (List.getElem?_eq_some_iff.1 hq).1
  have hu : t.leaves[k]? = some (t.leaves[k]'(by omega)) := List.getElem?_eq_getElem (by omega)
  obtain ⟨c, y, h1, h2, h3⟩ := e3 k _ hu
  refine ⟨c, h1, fun v hv => ?_⟩
  obtain ⟨q', q1, q2⟩ := argVal_rep hi h3 hv
  have := enc_mk_get t (ys.map (At.get ρ)) k _ (y.get ρ) q (by rw [List.length_map]; omega) hu (by rw [List.getElem?_map, h2]; rfl) hq
  rw [q1] at this
  cases this
  exact q2
/-- Slot by a flag. -/
theorem slot_rep {P : Program} {ρ' : Env} {g' : G} {agg : Bool} {sv : SV} {cs ds : List SC} {v : Value} (hs : svAgg agg sv = .ok cs) (hr : PRep P w g (sv.enc ρ) v) (hl : ds.length = cs.length)
    (hd : ∀ (k : Nat) (q : C), (encL ρ' ds)[k]? = some q → ∃ c, cs[k]? = some c ∧ ∀ v, CRep w g (c.enc ρ) v → CRep w g' q v) : PRep P w g' ((slotOf agg ds).enc ρ') v := by
  unfold svAgg at hs
  split at hs
  · rename_i c
    split at hs
    · cases hs
    · rename_i hag
      cases hs
      have hag : agg = false := by simpa using hag
      subst hag
      match ds, hl with
      | [d], _ =>
        obtain ⟨c', h1, h2⟩ := hd 0 _ (by simp only [encL]; rfl)
        cases h1
        exact h2 v hr
  · rename_i xs
    split at hs
    · rename_i hag
      cases hs
      subst hag
      obtain ⟨vs, e1, e2, e3⟩ := hr
      refine ⟨vs, e1, by rw [e2, encL_map, encL_map, List.length_map, List.length_map, hl], fun k q hq => ?_⟩
      obtain ⟨c, h1, h2⟩ := hd k q hq
      obtain ⟨u, hu, hc⟩ := e3 k (c.enc ρ) (by rw [encL_map, List.getElem?_map, h1]; rfl)
      exact ⟨u, hu, h2 u hc⟩
    · cases hs
  · cases hs
theorem ptr_rep (hi : TInv X D st ρ a w g) {ρ' : Env} {c : SC} {cs ds : List SC} {v : Value} (hp : st.ptrCells R c = .ok cs) (hr : CRep w g (c.enc ρ) v) (hl : ds.length = cs.length)
    (hd : ∀ (k : Nat) (q : C), (encL ρ' ds)[k]? = some q → ∃ c, cs[k]? = some c ∧ ∀ v, CRep w g (c.enc ρ) v → CRep w (lendG g R) q v) : CRep w (lendG g R) (.rp none (encL ρ' ds)) v := by
  unfold St.ptrCells at hp
  split at hp
  · rename_i r
    split at hp
    · rename_i e cells hrk
      split at hp
      · rename_i hR
        cases hp
        obtain ⟨b, base, f, q1, q2, q3⟩ := box_cells hi hrk
        simp only [SC.enc] at hr
        rw [hd_eq hr, q1]
        refine .rp none _ b base f (lend_reg (w := w) (rg := some r) (by simp only [rgOut]; exact hR) b (.inr ⟨[], q2⟩)) (fun k q hq => ?_) (fun k q hq => ?_)
        · obtain ⟨c, h1, _⟩ := hd k q hq
          exact (q3 k (c.enc ρ) (by rw [encL_map, List.getElem?_map, h1]; rfl)).1
        · obtain ⟨c, h1, h2⟩ := hd k q hq
          exact h2 _ (q3 k (c.enc ρ) (by rw [encL_map, List.getElem?_map, h1]; rfl)).2
      · cases hp
    · cases hp
  · rename_i rg cells
    split at hp
    · rename_i hR
      cases hp
      simp only [SC.enc] at hr
      cases hr with
      | rp _ _ b off f hS hcell hrep =>
        refine .rp none _ b off f (lend_reg (w := w) hR b hS) (fun k q hq => ?_) (fun k q hq => ?_)
        · obtain ⟨c, h1, _⟩ := hd k q hq
          exact hcell k (c.enc ρ) (by rw [encL_map, List.getElem?_map, h1]; rfl)
        · obtain ⟨c, h1, h2⟩ := hd k q hq
          exact h2 _ (hrep k (c.enc ρ) (by rw [encL_map, List.getElem?_map, h1]; rfl))
    · cases hp
  · cases hp

/-! ### What the callee owns for the call -/
theorem ownVals_cons {t : Ty} {ts : List Ty} {c : SC} {cs : List SC} {ys : List At} {rs : List Nat} (h : st.ownVals (t :: ts) (c :: cs) = .ok (ys, rs)) : ∃ y ys' rs', ys = y :: ys' ∧ st.ownVals ts cs = .ok (ys', rs') ∧
    ((t.scalar = true ∧ c = .v y ∧ y.ty st.ts = some t ∧ rs = rs') ∨ (∃ e b r nl, t = .sl e b ∧ c = .h r ∧ st.rk r = .list e b y nl none ∧ b.flat1 = true ∧ y.ty st.ts = some t ∧ rs = r :: rs')) := by
  cases t with
  | sl e b =>
    simp only [St.ownVals] at h
    split at h
    · rename_i r
      split at h
      · rename_i e' b' val nl hr
        obtain ⟨⟨ys', rs'⟩, h1, h⟩ := ok_bind h
        simp only at h
        split at h
        · rename_i hc
          cases h
          obtain ⟨rfl, rfl, hf, ht⟩ := hc
          exact ⟨val, ys', rs', rfl, h1, .inr ⟨_, _, r, nl, rfl, rfl, hr, hf, ht, rfl⟩⟩
        · cases h
      · cases h
    · cases h
  | _ =>
    simp only [St.ownVals] at h
    split at h
    · rename_i x
      obtain ⟨⟨ys', rs'⟩, h1, h⟩ := ok_bind h
      simp only at h
      split at h
      · rename_i hc
        cases h
        exact ⟨x, ys', rs, rfl, h1, .inl ⟨hc.1, rfl, hc.2, rfl⟩⟩
      · cases h
    · cases h
theorem lend_hdr {j r : Nat} (h : R[j]? = some r) (p : List (Nat × Nat)) : (lendG g R).hdr (j, p) = g.hdr (r, p) := by
  simp only [lendG, h]
theorem own_rep (hi : TInv X D st ρ a w g) {ρ' : Env} {nl' : Bool} : ∀ (ls : List (Ty × List Bool)) (cs : List SC) (ys : List At) (rs : List Nat) (r0 : Nat), st.ownVals (ls.map (·.1)) cs = .ok (ys, rs) →
    (∀ (k : Nat) (u : Ty) (pth : List Bool) (y : At), ls[k]? = some (u, pth) → ys[k]? = some y → Ref.get ρ' ⟨0, pth⟩ = ⟨u, (mkv u [y.get ρ]).1⟩) → (∀ j r, rs[j]? = some r → R[r0 + j]? = some r) →
    cs.length = ls.length ∧ ys.length = ls.length ∧ rs.length = ((ls.map (·.1)).filter Ty.isSl).length ∧ (ownCs 0 ls r0).length = ls.length ∧
    (∀ (k : Nat) (q : C), (encL ρ' (ownCs 0 ls r0))[k]? = some q → ∃ c, cs[k]? = some c ∧ ∀ v, CRep w g (c.enc ρ) v → CRep w (lendG g R) q v) ∧
    (∀ (j : Nat) (k' : RK), (ownRs nl' 0 ls)[j]? = some k' → ∃ r e b y pth nl, rs[j]? = some r ∧ st.rk r = .list e b y nl none ∧ b.flat1 = true ∧ k' = .list e b (.r ⟨0, pth⟩) nl' none ∧ (Ref.get ρ' ⟨0, pth⟩).as (.sl e b) = (y.get ρ).as (.sl e b))
  | [], cs, ys, rs, r0, h, hv, hR => by
    cases cs with
    | nil => simp only [List.map_nil, St.ownVals, Except.ok.injEq, Prod.mk.injEq] at h; obtain ⟨rfl, rfl⟩ := h; exact ⟨rfl, rfl, rfl, rfl, fun k q h => by simp [ownCs, encL] at h, fun j k' h => by simp [ownRs] at h⟩
    | cons c cs => simp [St.ownVals] at h
  | (t, pth) :: ls, cs, ys, rs, r0, h, hv, hR => by
    cases cs with
    | nil => cases t <;> simp [St.ownVals] at h
    | cons c cs =>
      simp only [List.map_cons] at h
      obtain ⟨y, ys', rs', rfl, h1, hc⟩ := ownVals_cons h
      have hy := hv 0 t pth y rfl rfl
      rcases hc with ⟨hsc, rfl, hty, rfl⟩ | ⟨e, b, r, nl, rfl, rfl, hrk, hf, hty, rfl⟩
      · obtain ⟨i1, i2, i3, i3', i4, i5⟩ := own_rep (nl' := nl') hi ls cs ys' rs r0 h1 (fun k u p z q1 q2 => hv (k + 1) u p z (by simpa using q1) (by simpa using q2)) hR
        have hcs : ownCs 0 ((t, pth) :: ls) r0 = .v (.r ⟨0, pth⟩) :: ownCs 0 ls r0 := by cases t <;> first | rfl | cases hsc
        have hrs : ownRs nl' 0 ((t, pth) :: ls) = ownRs nl' 0 ls := by cases t <;> first | rfl | cases hsc
        have hns : t.isSl = false := by cases t <;> first | rfl | cases hsc
        refine ⟨by simp [i1], by simp [i2], by simp [i3, hns], by rw [hcs]; simp [i3'], fun k q hq => ?_, fun j k' hk => ?_⟩
        · rw [hcs] at hq
          cases k with
          | zero =>
            simp only [encL, List.getElem?_cons_zero, Option.some.injEq, SC.enc] at hq
            rw [show At.get ρ' (.r ⟨0, pth⟩) = ⟨t, (mkv t [y.get ρ]).1⟩ from hy] at hq
            subst hq
            refine ⟨_, rfl, fun v hv2 => ?_⟩
            have hg := At.ty_get hi.typ hty
            simp only [SC.enc] at hv2
            clear hv i5 hy
            cases t with
            | int kd => rw [V.int_of hg] at hv2 ⊢; simp only [V.c, mkv, V.int] at hv2 ⊢; cases hv2; exact .int _ _
            | bool => rw [V.bool_of hg] at hv2 ⊢; simp only [V.c, mkv, V.bool] at hv2 ⊢; cases hv2; exact .bool _
            | _ => cases hsc
          | succ k => simpa using i4 k q (by simpa [encL] using hq)
        · rw [hrs] at hk; exact i5 j k' hk
      · have hr0 := hR 0 r rfl
        rw [Nat.add_zero] at hr0
        obtain ⟨i1, i2, i3, i3', i4, i5⟩ := own_rep (nl' := nl') hi ls cs ys' rs' (r0 + 1) h1 (fun k u p z q1 q2 => hv (k + 1) u p z (by simpa using q1) (by simpa using q2)) (fun j r' hj => by
          have := hR (j + 1) r' (by simpa using hj)
          rwa [show r0 + 1 + j = r0 + (j + 1) from by omega])
        refine ⟨by simp [i1], by simp [i2], by { have : ((Ty.sl e b) :: ls.map (·.1)).filter Ty.isSl = (Ty.sl e b) :: (ls.map (·.1)).filter Ty.isSl := rfl; simp only [List.map_cons, this, List.length_cons, i3] }, by simp [ownCs, i3'], fun k q hq => ?_, fun j k' hk => ?_⟩
        · cases k with
          | zero =>
            simp only [ownCs, encL, List.getElem?_cons_zero, Option.some.injEq, SC.enc] at hq
            subst hq
            refine ⟨_, rfl, fun v hv => ?_⟩
            simp only [SC.enc] at hv
            exact .hd _ _ ((hd_eq hv).trans (lend_hdr hr0 []).symm)
          | succ k => simpa using i4 k q (by simpa [ownCs, encL] using hq)
        · cases j with
          | zero =>
            simp only [ownRs, List.getElem?_cons_zero, Option.some.injEq] at hk
            subst hk
            refine ⟨r, e, b, y, pth, nl, rfl, hrk, hf, rfl, ?_⟩
            rw [hy, V.as_self]
            have hg := At.ty_get hi.typ hty
            rw [V.list_of hg]
            simp [mkv, V.as_self]
          | succ j => simpa using i5 j k' (by simpa [ownRs] using hk)
/-! ### Boxes that come in and go out -/
def mlR (R : List Nat) (l l' : Loc) : Prop := R[l'.1]? = some l.1 ∧ l.2 = l'.2
def mrN (a b : Rg) : Prop := a = none ∧ b = none
theorem mlR_hd {g : G} : ∀ l l', mlR R l l' → (lendG g R).hdr l' = g.hdr l := fun l l' ⟨h1, h2⟩ => by
  obtain ⟨l1, l2⟩ := l
  obtain ⟨l3, l4⟩ := l'
  simp only at h1 h2
  subst h2
  exact lend_hdr h1 l2
theorem mrN_reg {w : World} {g : G} : ∀ a b, mrN a b → ∀ k, g.reg a k → (lendG g R).reg b k ∧ w.heap[k]? = w.heap[k]? := fun a b ⟨h1, h2⟩ k hk => by
  subst h1 h2
  exact ⟨.inl hk, rfl⟩
theorem tk_rel {ρ ρ' : Env} {r j : Nat} {x x' : At} (hj : R[j]? = some r) (he : x'.get ρ' = x.get ρ) : C.Rel (mlR R) mrN ((SC.tk r x).enc ρ) ((SC.tk j x').enc ρ') := by
  simp only [SC.enc, he]
  exact .both _ _ _ _ (.hd _ _ ⟨hj, rfl⟩) (els_rel ⟨rfl, rfl⟩ _)
theorem tokVals_cons {t : Ty} {ts : List Ty} {c : SC} {cs : List SC} {ys : List At} {rs : List Nat} (h : st.tokVals (t :: ts) (c :: cs) = .ok (ys, rs)) : ∃ y ys' rs', ys = y :: ys' ∧ st.tokVals ts cs = .ok (ys', rs') ∧
    ((t.scalar = true ∧ c = .v y ∧ y.ty st.ts = some t ∧ rs = rs') ∨ (∃ e b r, t = .sl e b ∧ c = .tk r y ∧ y.ty st.ts = some t ∧ rs = r :: rs')) := by
  simp only [St.tokVals] at h
  have hb0 := ok_bind h
  clear h
  obtain ⟨⟨ys', rs'⟩, h1, h⟩ := hb0
  simp only at h
  split at h
  · rename_i e b r y
    split at h
    · rename_i hc
      cases h
      exact ⟨y, ys', _, rfl, h1, .inr ⟨e, b, r, rfl, rfl, hc, rfl⟩⟩
    · cases h
  · rename_i y
    split at h
    · rename_i hc
      cases h
      exact ⟨y, ys', _, rfl, h1, .inl ⟨hc.1, rfl, hc.2, rfl⟩⟩
    · cases h
  · cases h
theorem scalar_leaf {t : Ty} (h : t.scalar = true) : t.leaf = true := by cases t <;> first | rfl | cases h
theorem tok_rep (hi : TInv X D st ρ a w g) {ρ' : Env} : ∀ (ls : List (Ty × List Bool)) (cs : List SC) (ys : List At) (rs : List Nat) (r0 : Nat), st.tokVals (ls.map (·.1)) cs = .ok (ys, rs) →
    (∀ (k : Nat) (u : Ty) (pth : List Bool) (y : At), ls[k]? = some (u, pth) → ys[k]? = some y → Ref.get ρ' ⟨0, pth⟩ = ⟨u, (mkv u [y.get ρ]).1⟩) → (∀ j r, rs[j]? = some r → R[r0 + j]? = some r) →
    cs.length = ls.length ∧ ys.length = ls.length ∧ rs.length = ((ls.map (·.1)).filter Ty.isSl).length ∧ (tkIn 0 ls r0).length = ls.length ∧
    ∀ (k : Nat) (q q' : C), (encL ρ cs)[k]? = some q → (encL ρ' (tkIn 0 ls r0))[k]? = some q' → C.Rel (mlR R) mrN q q'
  | [], cs, ys, rs, r0, h, hv, hR => by
    cases cs with
    | nil => simp only [List.map_nil, St.tokVals, Except.ok.injEq, Prod.mk.injEq] at h; obtain ⟨rfl, rfl⟩ := h; exact ⟨rfl, rfl, rfl, rfl, fun k q q' h => by simp [encL] at h⟩
    | cons c cs => simp [St.tokVals] at h
  | (t, pth) :: ls, cs, ys, rs, r0, h, hv, hR => by
    cases cs with
    | nil => simp [St.tokVals] at h
    | cons c cs =>
      simp only [List.map_cons] at h
      obtain ⟨y, ys', rs', rfl, h1, hc⟩ := tokVals_cons h
      have hy := hv 0 t pth y rfl rfl
      rcases hc with ⟨hsc, rfl, hty, rfl⟩ | ⟨e, b, r, rfl, rfl, hty, rfl⟩
      · obtain ⟨i1, i2, i3, i4, i5⟩ := tok_rep hi ls cs ys' rs r0 h1 (fun k u p z q1 q2 => hv (k + 1) u p z (by simpa using q1) (by simpa using q2)) hR
        have hcs : tkIn 0 ((t, pth) :: ls) r0 = .v (.r ⟨0, pth⟩) :: tkIn 0 ls r0 := by cases t <;> first | rfl | cases hsc
        have hns : t.isSl = false := by cases t <;> first | rfl | cases hsc
        refine ⟨by simp [i1], by simp [i2], by simp [i3, hns], by rw [hcs]; simp [i4], fun k q q' hq hq' => ?_⟩
        rw [hcs] at hq'
        cases k with
        | zero =>
          simp only [encL, List.getElem?_cons_zero, Option.some.injEq, SC.enc] at hq hq'
          rw [show At.get ρ' (.r ⟨0, pth⟩) = y.get ρ from hy.trans (mkv_leaf _ (scalar_leaf hsc) (At.ty_get hi.typ hty))] at hq'
          subst hq hq'
          exact vc_rel _
        | succ k => exact i5 k q q' (by simpa [encL] using hq) (by simpa [encL] using hq')
      · have hr0 := hR 0 r rfl
        rw [Nat.add_zero] at hr0
        obtain ⟨i1, i2, i3, i4, i5⟩ := tok_rep hi ls cs ys' rs' (r0 + 1) h1 (fun k u p z q1 q2 => hv (k + 1) u p z (by simpa using q1) (by simpa using q2)) (fun j r' hj => by
          have := hR (j + 1) r' (by simpa using hj)
          rwa [show r0 + 1 + j = r0 + (j + 1) from by omega])
        refine ⟨by simp [i1], by simp [i2], by { have : ((Ty.sl e b) :: ls.map (·.1)).filter Ty.isSl = (Ty.sl e b) :: (ls.map (·.1)).filter Ty.isSl := rfl; simp only [List.map_cons, this, List.length_cons, i3] }, by simp [tkIn, i4], fun k q q' hq hq' => ?_⟩
        cases k with
        | zero =>
          simp only [tkIn, encL, List.getElem?_cons_zero, Option.some.injEq] at hq hq'
          subst hq hq'
          exact tk_rel hr0 (hy.trans (mkv_leaf _ rfl (At.ty_get hi.typ hty)))
        | succ k => exact i5 k q q' (by simpa [encL] using hq) (by simpa [tkIn, encL] using hq')
theorem boxVals_get {e : TypeId} {t : Ty} {v : SV} {ys : List At} {rs : List Nat} (h : st.boxVals e t v = .ok (ys, rs)) : ∃ r cells rs', v = .c (.h r) ∧ st.rk r = .box e cells ∧ st.tokVals t.leaves cells = .ok (ys, rs') ∧ rs = r :: rs' := by
  unfold St.boxVals at h
  split at h
  · rename_i r
    split at h
    · rename_i e' cells hr
      have hb0 := ok_bind h
      clear h
      obtain ⟨⟨ys', rs'⟩, h1, h⟩ := hb0
      simp only at h
      split at h
      · rename_i e0
        subst e0
        cases h
        exact ⟨r, cells, rs', rfl, hr, h1, rfl⟩
      · cases h
    · cases h
  · cases h
theorem tokVal_get {e : TypeId} {b : Ty} {v : SV} {y : At} {r : Nat} (h : st.tokVal e b v = .ok (y, r)) : v = .c (.tk r y) ∧ y.ty st.ts = some (.sl e b) := by
  unfold St.tokVal at h
  split at h
  · split at h
    · rename_i hc; cases h; exact ⟨rfl, hc⟩
    · cases h
  · cases h
theorem tokVals_len : ∀ (ts : List Ty) (cs : List SC) (ys : List At) (rs : List Nat), st.tokVals ts cs = .ok (ys, rs) → ys.length = ts.length ∧ cs.length = ts.length ∧ rs.length = (ts.filter Ty.isSl).length
  | [], [], ys, rs, h => by simp only [St.tokVals, Except.ok.injEq, Prod.mk.injEq] at h; obtain ⟨rfl, rfl⟩ := h; exact ⟨rfl, rfl, rfl⟩
  | [], c :: cs, ys, rs, h => by simp [St.tokVals] at h
  | t :: ts, [], ys, rs, h => by simp [St.tokVals] at h
  | t :: ts, c :: cs, ys, rs, h => by
    obtain ⟨y, ys', rs', rfl, h1, hc⟩ := tokVals_cons h
    obtain ⟨e1, e2, e3⟩ := tokVals_len ts cs ys' rs' h1
    rcases hc with ⟨hsc, _, _, rfl⟩ | ⟨e, b, r, rfl, _, _, rfl⟩
    · have hns : t.isSl = false := by cases t <;> first | rfl | cases hsc
      exact ⟨by simp [e1], by simp [e2], by simp [e3, hns]⟩
    · have : ((Ty.sl e b) :: ts).filter Ty.isSl = (Ty.sl e b) :: ts.filter Ty.isSl := rfl
      exact ⟨by simp [e1], by simp [e2], by rw [this]; simp [e3]⟩
end
end Go.Pu
/-
  Own work. Calls, the way in: what the contract asks for.
-/
namespace Go.Pu
open Go Go.RowKit
set_option linter.unusedVariables false
set_option linter.unusedSectionVars false

def nb (ps : List Par) (k : Nat) : Nat := ((ps.take k).map Par.nroots).sum
theorem nb_zero (ps : List Par) : nb ps 0 = 0 := rfl
theorem nb_succ (p : Par) (ps : List Par) (k : Nat) : nb (p :: ps) (k + 1) = p.nroots + nb ps k := by simp [nb]
theorem lp_fst (p : List Bool) (t : Ty) : (t.lp p).map (·.1) = t.leaves := by
  unfold Ty.lp
  rw [List.map_fst_zip (by rw [leaves_length, pathsOf_length]; exact Nat.le_refl _)]
theorem lp_get {p : List Bool} {t : Ty} {k : Nat} {u : Ty} {pth : List Bool} (h : (t.lp p)[k]? = some (u, pth)) : t.leaves[k]? = some u ∧ (pathsOf p t)[k]? = some pth := by
  unfold Ty.lp at h
  rw [List.getElem?_zip_eq_some] at h
  exact h
theorem lp_length (p : List Bool) (t : Ty) : (t.lp p).length = t.n := by
  unfold Ty.lp
  rw [List.length_zip, leaves_length, pathsOf_length]; exact Nat.min_self _
theorem ownRs_length (nl : Bool) (n : Nat) : ∀ (ls : List (Ty × List Bool)), (ownRs nl n ls).length = ((ls.map (·.1)).filter Ty.isSl).length
  | [] => rfl
  | (t, p) :: ls => by
    have ih := ownRs_length nl n ls
    cases t with
    | sl e a =>
      have : ((Ty.sl e a) :: ls.map (·.1)).filter Ty.isSl = (Ty.sl e a) :: (ls.map (·.1)).filter Ty.isSl := rfl
      simp only [ownRs, List.map_cons, this, List.length_cons, ih]
    | int k => have : ((Ty.int k) :: ls.map (·.1)).filter Ty.isSl = (ls.map (·.1)).filter Ty.isSl := rfl
               simp only [ownRs, List.map_cons, this, ih]
    | bool => have : ((Ty.bool) :: ls.map (·.1)).filter Ty.isSl = (ls.map (·.1)).filter Ty.isSl := rfl
              simp only [ownRs, List.map_cons, this, ih]
    | unit => have : ((Ty.unit) :: ls.map (·.1)).filter Ty.isSl = (ls.map (·.1)).filter Ty.isSl := rfl
              simp only [ownRs, List.map_cons, this, ih]
    | mp => have : ((Ty.mp) :: ls.map (·.1)).filter Ty.isSl = (ls.map (·.1)).filter Ty.isSl := rfl
            simp only [ownRs, List.map_cons, this, ih]
    | pr a b => have : ((Ty.pr a b) :: ls.map (·.1)).filter Ty.isSl = (ls.map (·.1)).filter Ty.isSl := rfl
                simp only [ownRs, List.map_cons, this, ih]
theorem parRoots_length (m i r : Nat) (p : Par) : (parRoots m i r p).length = p.nroots := by
  cases p with
  | iob e t => simp only [parRoots, List.length_cons, List.length_replicate, Par.nroots]; omega
  | own agg t io => simp only [parRoots, ownRs_length, lp_fst, Par.nroots, Ty.sls]
  | _ => rfl
theorem initSlots_get (m : Nat) : ∀ (ps : List Par) (i r k : Nat), (initSlots m i r ps)[k]? = (ps[k]?).map (parSlot m (i + k) (r + nb ps k))
  | [], i, r, k => by simp [initSlots]
  | p :: ps, i, r, k => by
    cases k with
    | zero => simp [initSlots, nb_zero]
    | succ k =>
      simp only [initSlots, List.getElem?_cons_succ]
      rw [initSlots_get m ps, nb_succ, show i + 1 + k = i + (k + 1) from by omega, Nat.add_assoc]
theorem initRoots_get (m : Nat) : ∀ (ps : List Par) (i r j : Nat) (k' : RK), (initRoots m i r ps)[j]? = some k' → ∃ k p q, ps[k]? = some p ∧ (parRoots m (i + k) (r + nb ps k) p)[q]? = some k' ∧ j = nb ps k + q
  | [], i, r, j, k', h => by simp [initRoots] at h
  | p :: ps, i, r, j, k', h => by
    simp only [initRoots, List.getElem?_append, parRoots_length] at h
    split at h
    · exact ⟨0, p, j, rfl, by rw [nb_zero]; exact h, by simp [nb_zero]⟩
    · rename_i hj
      obtain ⟨k, p', q, h1, h2, h3⟩ := initRoots_get m ps (i + 1) (r + p.nroots) _ k' h
      exact ⟨k + 1, p', q, by simpa using h1, by rwa [nb_succ, show i + (k + 1) = i + 1 + k from by omega, show r + (p.nroots + nb ps k) = r + p.nroots + nb ps k from by omega], by rw [nb_succ]; omega⟩
section
variable {X : Ctx} {D : Nat → Prop} {Γ : List FE} {st : St} {ρ : Env} {a : Act} {w : World} {g : G} {R : List Nat}
theorem ownVals_len : ∀ (ts : List Ty) (cs : List SC) (ys : List At) (rs : List Nat), st.ownVals ts cs = .ok (ys, rs) → ys.length = ts.length ∧ cs.length = ts.length ∧ rs.length = (ts.filter Ty.isSl).length
  | [], [], ys, rs, h => by simp only [St.ownVals, Except.ok.injEq, Prod.mk.injEq] at h; obtain ⟨rfl, rfl⟩ := h; exact ⟨rfl, rfl, rfl⟩
  | [], c :: cs, ys, rs, h => by simp [St.ownVals] at h
  | t :: ts, [], ys, rs, h => by cases t <;> simp [St.ownVals] at h
  | t :: ts, c :: cs, ys, rs, h => by
    obtain ⟨y, ys', rs', rfl, h1, hc⟩ := ownVals_cons h
    obtain ⟨e1, e2, e3⟩ := ownVals_len ts cs ys' rs' h1
    rcases hc with ⟨hsc, rfl, hty, rfl⟩ | ⟨e, b, r, nl, rfl, rfl, hrk, hf, hty, rfl⟩
    · refine ⟨by simp [e1], by simp [e2], ?_⟩
      have : (t :: ts).filter Ty.isSl = ts.filter Ty.isSl := by cases t <;> first | rfl | cases hsc
      rw [this]; exact e3
    · have : (Ty.sl e b :: ts).filter Ty.isSl = Ty.sl e b :: ts.filter Ty.isSl := rfl
      refine ⟨by simp [e1], by simp [e2], by rw [this]; simp [e3]⟩
theorem callArgs_get : ∀ (ps : List Par) (vs : List SV) (xs : List At), callArgs st R ps vs = .ok xs → ∃ cs : List (List At), xs = cs.flatten ∧ cs.length = ps.length ∧ vs.length = ps.length ∧ ∀ (i : Nat) (p : Par), ps[i]? = some p → ∃ c v, cs[i]? = some c ∧ vs[i]? = some v ∧ callArg st R p v = .ok c
  | [], [], xs, h => by simp only [callArgs, Except.ok.injEq] at h; subst h; exact ⟨[], rfl, rfl, rfl, fun i p h => by simp at h⟩
  | p :: ps, v :: vs, xs, h => by
    simp only [callArgs] at h
    obtain ⟨c, hc, h⟩ := ok_bind h
    obtain ⟨ys, hys, h⟩ := ok_bind h
    simp only [Except.ok.injEq] at h
    subst h
    obtain ⟨cs, rfl, e1, e2, e3⟩ := callArgs_get ps vs ys hys
    refine ⟨c :: cs, rfl, by simp [e1], by simp [e2], fun i q hq => ?_⟩
    cases i with
    | zero => simp only [List.getElem?_cons_zero, Option.some.injEq] at hq; subst hq; exact ⟨c, v, rfl, rfl, hc⟩
    | succ i => simpa using e3 i q (by simpa using hq)
  | [], _ :: _, _, h => by simp [callArgs] at h
  | _ :: _, [], _, h => by simp [callArgs] at h
def parR (st : St) : Par → SV → M (List Nat)
  | .own agg t _, v => do
    let cs ← svAgg agg v
    let x ← st.ownVals t.leaves cs
    .ok x.2
  | .iob e t, v => do
    let x ← st.boxVals e t v
    .ok x.2
  | .tok e b, v => do
    let x ← st.tokVal e b v
    .ok [x.2]
  | _, _ => .ok []
theorem parR_len {p : Par} {v : SV} {rs : List Nat} (h : parR st p v = .ok rs) : rs.length = p.nroots := by
  cases p with
  | own agg t io =>
    simp only [parR] at h
    obtain ⟨cs, _, h⟩ := ok_bind h
    have hb0 := ok_bind h
    clear h
    obtain ⟨⟨ys, rs'⟩, hx, h⟩ := hb0
    cases h
    exact (ownVals_len _ _ _ _ hx).2.2
  | iob e t =>
    simp only [parR] at h
    have hb0 := ok_bind h
    clear h
    obtain ⟨⟨ys, rs'⟩, hx, h⟩ := hb0
    cases h
    obtain ⟨r, cells, rs2, _, _, h1, rfl⟩ := boxVals_get hx
    have := (tokVals_len _ _ _ _ h1).2.2
    simp only [List.length_cons, this, Par.nroots, Ty.sls]; omega
  | tok e b =>
    simp only [parR] at h
    have hb0 := ok_bind h
    clear h
    obtain ⟨⟨y, r⟩, hx, h⟩ := hb0
    cases h; rfl
  | _ => simp only [parR] at h; cases h; rfl
theorem callRoots_cons {p : Par} {ps : List Par} {v : SV} {vs : List SV} {R : List Nat} (h : callRoots st (p :: ps) (v :: vs) = .ok R) : ∃ R0 R', R = R0 ++ R' ∧ parR st p v = .ok R0 ∧ callRoots st ps vs = .ok R' := by
  cases p with
  | own agg t io =>
    simp only [callRoots] at h
    obtain ⟨cs, hcs, h⟩ := ok_bind h
    obtain ⟨⟨ys, rs⟩, hx, h⟩ := ok_bind h
    have hb0 := ok_bind h
    clear h
    obtain ⟨R', hR', h⟩ := hb0
    cases h
    exact ⟨rs, R', rfl, by simp only [parR, hcs, hx, bind, Except.bind], hR'⟩
  | iob e t =>
    simp only [callRoots] at h
    obtain ⟨⟨ys, rs⟩, hx, h⟩ := ok_bind h
    have hb0 := ok_bind h
    clear h
    obtain ⟨R', hR', h⟩ := hb0
    cases h
    exact ⟨rs, R', rfl, by simp only [parR, hx, bind, Except.bind], hR'⟩
  | tok e b =>
    simp only [callRoots] at h
    obtain ⟨⟨y, r⟩, hx, h⟩ := ok_bind h
    have hb0 := ok_bind h
    clear h
    obtain ⟨R', hR', h⟩ := hb0
    cases h
    exact ⟨[r], R', rfl, by simp only [parR, hx, bind, Except.bind], hR'⟩
  | _ => exact ⟨[], R, rfl, rfl, h⟩
theorem callRoots_gen : ∀ (ps : List Par) (vs : List SV) (R : List Nat), callRoots st ps vs = .ok R → ∀ (i : Nat) (v : SV) (p : Par), ps[i]? = some p → vs[i]? = some v → ∃ rs, parR st p v = .ok rs ∧ ∀ j r, rs[j]? = some r → R[nb ps i + j]? = some r
  | [], [], R, h => fun i v p h => by simp at h
  | p :: ps, v0 :: vs, R, h => fun i v q hp hv => by
    obtain ⟨R0, R', rfl, h1, h2⟩ := callRoots_cons h
    have hl := parR_len h1
    cases i with
    | zero =>
      simp only [List.getElem?_cons_zero, Option.some.injEq] at hp hv
      subst hp hv
      refine ⟨R0, h1, fun j r hj => ?_⟩
      rw [nb_zero, Nat.zero_add, List.getElem?_append_left (List.getElem?_eq_some_iff.1 hj).1]; exact hj
    | succ i =>
      obtain ⟨rs, q1, q3⟩ := callRoots_gen ps vs R' h2 i v q (by simpa using hp) (by simpa using hv)
      refine ⟨rs, q1, fun j r hj => ?_⟩
      rw [nb_succ, List.getElem?_append_right (by omega), show p.nroots + nb ps i + j - R0.length = nb ps i + j from by omega]
      exact q3 j r hj
  | [], _ :: _, _, h => by simp [callRoots] at h
  | p :: ps, [], _, h => by cases p <;> simp [callRoots] at h
theorem callRoots_get (ps : List Par) (vs : List SV) (R : List Nat) (h : callRoots st ps vs = .ok R) (i : Nat) (v : SV) (agg : Bool) (t : Ty) (io : Bool) (hp : ps[i]? = some (.own agg t io)) (hv : vs[i]? = some v) : ∃ cs ys rs, svAgg agg v = .ok cs ∧ st.ownVals t.leaves cs = .ok (ys, rs) ∧ ∀ j r, rs[j]? = some r → R[nb ps i + j]? = some r := by
  obtain ⟨rs, h1, h2⟩ := callRoots_gen ps vs R h i v _ hp hv
  simp only [parR] at h1
  obtain ⟨cs, hcs, h1⟩ := ok_bind h1
  obtain ⟨⟨ys, rs'⟩, hx, h1⟩ := ok_bind h1
  cases h1
  exact ⟨cs, ys, rs', hcs, hx, h2⟩
theorem capVals_get : ∀ (ts : List Ty) (caps : List SC) (xs : List At), capVals st R ts caps = .ok xs → ∃ cs : List (List At), xs = cs.flatten ∧ cs.length = ts.length ∧ caps.length = ts.length ∧
    ∀ (k : Nat) (t : Ty), ts[k]? = some t → ∃ c y ds, caps[k]? = some c ∧ cs[k]? = some y ∧ st.ptrCells R c = .ok ds ∧ st.argVals R t.leaves ds = .ok y
  | [], [], xs, h => by simp only [capVals, Except.ok.injEq] at h; subst h; exact ⟨[], rfl, rfl, rfl, fun k t h => by simp at h⟩
  | t :: ts, c :: caps, xs, h => by
    simp only [capVals] at h
    obtain ⟨ds, hds, h⟩ := ok_bind h
    obtain ⟨y, hy, h⟩ := ok_bind h
    obtain ⟨ys, hys, h⟩ := ok_bind h
    simp only [Except.ok.injEq] at h
    subst h
    obtain ⟨cs, rfl, e1, e2, e3⟩ := capVals_get ts caps ys hys
    refine ⟨y :: cs, rfl, by simp [e1], by simp [e2], fun k u hu => ?_⟩
    cases k with
    | zero => simp only [List.getElem?_cons_zero, Option.some.injEq] at hu; subst hu; exact ⟨c, y, ds, rfl, rfl, hds, hy⟩
    | succ k => simpa using e3 k u (by simpa using hu)
  | [], _ :: _, _, h => by simp [capVals] at h
  | _ :: _, [], _, h => by simp [capVals] at h
theorem capVals_len {ts : List Ty} {cs : List (List At)} (h : ∀ (k : Nat) (t : Ty), ts[k]? = some t → ∃ y, cs[k]? = some y ∧ y.length = t.n) (hl : cs.length = ts.length) : cs.flatten.length = (prod ts).n := by
  have := (prod_proj ts (cs.map (·.map fun _ => V.u)) (fun k t c h1 h2 => by
    rw [List.getElem?_map, Option.map_eq_some_iff] at h2
    obtain ⟨y, hy, rfl⟩ := h2
    obtain ⟨y', hy', hl'⟩ := h k t h1
    rw [hy] at hy'; cases hy'
    rw [List.length_map]; exact hl') (by simp [hl])).1
  rw [← this, ← List.map_flatten, List.length_map]
theorem callArg_len {p : Par} {v : SV} {c : List At} (h : callArg st R p v = .ok c) : c.length = p.ty.n := by
  unfold callArg at h
  split at h
  · rename_i agg t
    obtain ⟨cs, _, h⟩ := ok_bind h
    obtain ⟨_, e, _⟩ := argVals_get _ _ _ h
    rw [e, leaves_length]; rfl
  · rename_i t
    split at h
    · obtain ⟨cs, _, h⟩ := ok_bind h
      obtain ⟨_, e, _⟩ := argVals_get _ _ _ h
      rw [e, leaves_length]; rfl
    · cases h
  · rename_i agg t io
    obtain ⟨cs, _, h⟩ := ok_bind h
    obtain ⟨⟨ys, rs⟩, hx, h⟩ := ok_bind h
    simp only [Except.ok.injEq] at h
    subst h
    obtain ⟨e, _, _⟩ := ownVals_len _ _ _ _ hx
    rw [e, leaves_length]; rfl
  · split at h
    · split at h
      · obtain ⟨cs, rfl, e1, e2, e3⟩ := capVals_get _ _ _ h
        refine capVals_len (fun k t ht => ?_) e1
        obtain ⟨c, y, ds, _, q2, _, q4⟩ := e3 k t ht
        obtain ⟨_, e, _⟩ := argVals_get _ _ _ q4
        exact ⟨y, q2, by rw [e, leaves_length]⟩
      · cases h
    · cases h
  · have hb0 := ok_bind h
    clear h
    obtain ⟨⟨ys, rs⟩, hx, h⟩ := hb0
    cases h
    obtain ⟨r, cells, rs2, _, _, h1, _⟩ := boxVals_get hx
    rw [(tokVals_len _ _ _ _ h1).1, leaves_length]; rfl
  · have hb0 := ok_bind h
    clear h
    obtain ⟨⟨y, r⟩, hx, h⟩ := hb0
    cases h; rfl
theorem cellsOf_length (rg : Rg) (n : Nat) : ∀ (t : Ty) (p : List Bool), (cellsOf rg n p t).length = t.n
  | .int _, _ => rfl
  | .bool, _ => rfl
  | .unit, _ => rfl
  | .sl _ _, _ => rfl
  | .mp, _ => rfl
  | .pr a b, p => by simp only [cellsOf, List.length_append, cellsOf_length rg n a, cellsOf_length rg n b, Ty.n]
theorem ownCs_length (n : Nat) : ∀ (ls : List (Ty × List Bool)) (r : Nat), (ownCs n ls r).length = ls.length
  | [], _ => rfl
  | (t, p) :: ls, r => by cases t <;> simp [ownCs, ownCs_length n ls]
theorem pre_ok (hi : TInv X D st ρ a w g) {sg : Sig} {vs : List SV} {xs : List At} (hR : callRoots st sg.ps vs = .ok R) (hx : callArgs st R sg.ps vs = .ok xs) (hnd : nodup R = true) {argv : Array Value} (hsz : argv.size = vs.length)
    (hv : ∀ (i : Nat) (sv : SV), vs[i]? = some sv → PRep X.P w g (sv.enc ρ) (argv.getD i undef)) : Pre X.P sg (mkv sg.p (xs.map (At.get ρ))).1 w (lendG g R) argv := by
  obtain ⟨cs, rfl, e1, e2, e3⟩ := callArgs_get _ _ _ hx
  have hok := hi.inv.ok
  have hfl : cs.flatten.map (At.get ρ) = (cs.map (·.map (At.get ρ))).flatten := by rw [List.map_flatten]
  rw [hfl]
  obtain ⟨_, hproj⟩ := prod_proj (sg.ps.map Par.ty) (cs.map (·.map (At.get ρ))) (fun k t c h1 h2 => by
    rw [List.getElem?_map, Option.map_eq_some_iff] at h1 h2
    obtain ⟨p, hp, rfl⟩ := h1
    obtain ⟨c', hc', rfl⟩ := h2
    obtain ⟨c2, v, q1, q2, q3⟩ := e3 k p hp
    rw [hc'] at q1; cases q1
    rw [List.length_map]; exact callArg_len q3) (by simp [e1])
  generalize hx0 : (mkv sg.p (cs.map (·.map (At.get ρ))).flatten).1 = x0
  have hx0' : (mkv (prod (sg.ps.map Par.ty)) (cs.map (·.map (At.get ρ))).flatten).1 = x0 := hx0
  rw [hx0'] at hproj
  have hget : ∀ (i : Nat) (p : Par) (c : List At), sg.ps[i]? = some p → cs[i]? = some c → Ref.get [⟨sg.p, x0⟩] ⟨0, partPath sg.ps.length i⟩ = ⟨p.ty, (mkv p.ty (c.map (At.get ρ))).1⟩ := fun i p c h1 h2 => by
    have := hproj i p.ty (c.map (At.get ρ)) (by rw [List.getElem?_map, h1]; rfl) (by rw [List.getElem?_map, h2]; rfl)
    rw [List.length_map] at this
    exact this
  have hleaf : ∀ (i : Nat) (p : Par) (c : List At), sg.ps[i]? = some p → cs[i]? = some c → c.length = p.ty.n → ∀ (k : Nat) (u : Ty) (pth : List Bool) (y : At), (p.ty.lp (partPath sg.ps.length i))[k]? = some (u, pth) → c[k]? = some y → Ref.get [⟨sg.p, x0⟩] ⟨0, pth⟩ = ⟨u, (mkv u [y.get ρ]).1⟩ := fun i p c h1 h2 hl k u pth y h3 h4 => by
    obtain ⟨q1, q2⟩ := lp_get h3
    exact mkv_proj p.ty (c.map (At.get ρ)) (partPath sg.ps.length i) ⟨sg.p, x0⟩ (by rw [List.length_map]; exact hl) (hget i p c h1 h2) k pth u (y.get ρ) q2 q1 (by rw [List.getElem?_map, h4]; rfl)
  refine ⟨by rw [hsz, e2], fun i => ?_, fun l row hl => ?_, fun b hb => ?_, fun b l hl => ?_⟩
  · have hsl : (preSt sg).slot i = ((sg.ps[i]?).map (parSlot sg.ps.length (0 + i) (0 + nb sg.ps i))).getD .junk := by
      unfold St.slot preSt
      simp only [List.getD]
      rw [initSlots_get]
    rw [hsl]
    cases hp : sg.ps[i]? with
    | none => trivial
    | some p =>
      obtain ⟨c, v, q1, q2, q3⟩ := e3 i p hp
      have hrep := hv i v q2
      have hcl := callArg_len q3
      have hg := hget i p c hp q1
      have hlf := hleaf i p c hp q1 hcl
      simp only [Option.map_some, Option.getD_some, Nat.zero_add]
      unfold callArg at q3
      split at q3
      · rename_i agg t
        obtain ⟨ds, hds, q3⟩ := ok_bind q3
        obtain ⟨l1, l2, l3⟩ := argVals_rep hi q3
        refine slot_rep hds hrep (by rw [cellsOf_length, l2]) fun k q hq => ?_
        rw [cellsOf_enc none 0 _ t _ _ hg] at hq
        exact l3 k q hq
      · rename_i t
        split at q3
        · rename_i c0
          obtain ⟨ds, hds, q3⟩ := ok_bind q3
          obtain ⟨l1, l2, l3⟩ := argVals_rep hi q3
          refine ptr_rep hi hds hrep (by rw [cellsOf_length, l2]) fun k q hq => ?_
          rw [cellsOf_enc none 0 _ t _ _ hg] at hq
          exact l3 k q hq
        · cases q3
      · rename_i agg t io
        obtain ⟨ds, hds, q3⟩ := ok_bind q3
        obtain ⟨⟨ys, rs⟩, hx, q3⟩ := ok_bind q3
        simp only [Except.ok.injEq] at q3
        subst q3
        obtain ⟨ds', ys', rs', r1, r2, r3⟩ := callRoots_get _ _ _ hR i v agg t io hp q2
        rw [hds] at r1; cases r1
        rw [hx] at r2; cases r2
        obtain ⟨o1, o2, o3, o4, o5, _⟩ := own_rep (nl' := false) hi (t.lp (partPath sg.ps.length i)) ds ys rs (nb sg.ps i) (by rw [lp_fst]; exact hx) hlf r3
        exact slot_rep hds hrep (by rw [o4, o1]) o5
      · rename_i f ts
        split at q3
        · rename_i f' caps
          split at q3
          · rename_i hff
            subst hff
            obtain ⟨ys, rfl, c1, c2, c3⟩ := capVals_get _ _ _ q3
            have hrep : CRep w g (.fn f (encL ρ caps)) (argv.getD i undef) := hrep
            have hfl2 : ys.flatten.map (At.get ρ) = (ys.map (·.map (At.get ρ))).flatten := by rw [List.map_flatten]
            obtain ⟨_, hpj⟩ := prod_proj ts (ys.map (·.map (At.get ρ))) (fun k t c h1 h2 => by
              rw [List.getElem?_map, Option.map_eq_some_iff] at h2
              obtain ⟨y, hy, rfl⟩ := h2
              obtain ⟨_, y', _, _, q5, _, q6⟩ := c3 k t h1
              rw [hy] at q5; cases q5
              obtain ⟨_, e, _⟩ := argVals_get _ _ _ q6
              rw [List.length_map, e, leaves_length]) (by simp [c1])
            rw [← hfl2] at hpj
            generalize argv.getD i undef = u at hrep ⊢
            cases hrep with
            | fn _ _ vs hs hr =>
              show CRep w (lendG g R) (.fn f (encL [⟨sg.p, x0⟩] (ts.zipIdx.map fun x => .rp none (cellsOf none 0 (partPath sg.ps.length i ++ partPath ts.length x.2) x.1)))) _
              refine .fn f _ vs (by rw [hs, encL_map, encL_map]; simp [c2]) fun k q hq => ?_
              rw [encL_map, List.map_map, List.getElem?_map, Option.map_eq_some_iff] at hq
              obtain ⟨⟨t, k'⟩, hk, rfl⟩ := hq
              rw [List.getElem?_zipIdx, Option.map_eq_some_iff] at hk
              obtain ⟨t', ht', hk⟩ := hk
              simp only [Prod.mk.injEq, Nat.zero_add] at hk
              obtain ⟨rfl, rfl⟩ := hk
              obtain ⟨c0, y, ds, p1, p2, p3, p4⟩ := c3 k t' ht'
              obtain ⟨l1, l2, l3⟩ := argVals_rep hi p4
              have hgk : Ref.get [⟨sg.p, x0⟩] ⟨0, partPath sg.ps.length i ++ partPath ts.length k⟩ = ⟨t', (mkv t' (y.map (At.get ρ))).1⟩ := by
                have h1 := hpj k t' (y.map (At.get ρ)) ht' (by rw [List.getElem?_map, p2]; rfl)
                have h2 : Ref.get [⟨sg.p, x0⟩] ⟨0, partPath sg.ps.length i ++ partPath ts.length k⟩ = (Ref.get [⟨sg.p, x0⟩] ⟨0, partPath sg.ps.length i⟩).proj (partPath ts.length k) := by
                  simp only [Ref.get, proj_app]
                rw [h2, hg]
                exact h1
              simp only [Function.comp, SC.enc]
              refine ptr_rep hi p3 (hr k (c0.enc ρ) (by rw [encL_map, List.getElem?_map, p1]; rfl)) (by rw [cellsOf_length, l2]) fun k2 q2 hq2 => ?_
              rw [cellsOf_enc none 0 _ t' _ _ hgk] at hq2
              exact l3 k2 q2 hq2
          · cases q3
        · cases q3
      · rename_i e t
        have hb0 := ok_bind q3
        clear q3
        obtain ⟨⟨ys, rs⟩, hx, q3⟩ := hb0
        cases q3
        obtain ⟨rs', r1, r2⟩ := callRoots_gen _ _ _ hR i v _ hp q2
        simp only [parR, hx, bind, Except.bind, Except.ok.injEq] at r1
        subst r1
        obtain ⟨r, cells, rs2, rfl, _, _, rfl⟩ := boxVals_get hx
        have hRj := r2 0 r rfl
        rw [Nat.add_zero] at hRj
        have hrep : CRep w g (.hd (r, [])) (argv.getD i undef) := by simpa [SV.enc, SC.enc, PRep] using hrep
        show CRep w (lendG g R) (.hd (nb sg.ps i, [])) _
        exact .hd _ _ ((hd_eq hrep).trans (lend_hdr hRj []).symm)
      · rename_i e t
        have hb0 := ok_bind q3
        clear q3
        obtain ⟨⟨y, r⟩, hx, q3⟩ := hb0
        cases q3
        obtain ⟨rs', r1, r2⟩ := callRoots_gen _ _ _ hR i v _ hp q2
        simp only [parR, hx, bind, Except.bind, Except.ok.injEq] at r1
        subst r1
        obtain ⟨rfl, hty⟩ := tokVal_get hx
        have hRj := r2 0 r rfl
        rw [Nat.add_zero] at hRj
        have hrep : CRep w g ((SC.tk r y).enc ρ) (argv.getD i undef) := hrep
        show CRep w (lendG g R) ((SC.tk (nb sg.ps i) (.r ⟨0, partPath sg.ps.length i⟩)).enc [⟨sg.p, x0⟩]) _
        exact hrep.rel mlR_hd mrN_reg (tk_rel hRj (hg.trans (mkv_leaf _ rfl (At.ty_get hi.typ hty))))
  · obtain ⟨j, pp⟩ := l
    have hl : RK.rows [⟨sg.p, x0⟩] j ((preSt sg).rk j) pp = some row := hl
    cases hj : (initRoots sg.ps.length 0 0 sg.ps)[j]? with
    | none =>
      have : (preSt sg).rk j = .dead := by unfold St.rk preSt; simp only [List.getD, hj]; rfl
      rw [this, rows_dead] at hl; cases hl
    | some k' =>
      have hk' : (preSt sg).rk j = k' := by unfold St.rk preSt; simp only [List.getD, hj]; rfl
      rw [hk'] at hl
      obtain ⟨i, p, q, hp, hq, rfl⟩ := initRoots_get _ _ _ _ _ _ hj
      rw [Nat.zero_add, Nat.zero_add] at hq
      cases p with
      | own agg t io =>
        obtain ⟨c, v, q1, q2, q3⟩ := e3 i _ hp
        have hcl := callArg_len q3
        have hlf := hleaf i _ c hp q1 hcl
        simp only [callArg] at q3
        obtain ⟨ds, hds, q3⟩ := ok_bind q3
        obtain ⟨⟨ys, rs⟩, hx, q3⟩ := ok_bind q3
        simp only [Except.ok.injEq] at q3
        subst q3
        obtain ⟨ds', ys', rs', r1, r2, r3⟩ := callRoots_get _ _ _ hR i v agg t io hp q2
        rw [hds] at r1; cases r1
        rw [hx] at r2; cases r2
        obtain ⟨_, _, _, _, _, o6⟩ := own_rep (nl' := false) hi (t.lp (partPath sg.ps.length i)) ds ys rs (nb sg.ps i) (by rw [lp_fst]; exact hx) hlf r3
        obtain ⟨r, e, b, y, pth, nl, s1, s2, s3, rfl, s5⟩ := o6 q k' hq
        have hRj := r3 q r s1
        obtain ⟨row0, hrow0, hrel⟩ := list_rel (ml := fun l l' => l.1 = r ∧ l'.1 = nb sg.ps i + q ∧ l.2 = l'.2) (mr := fun _ _ => False) (r := r) (x := y) (ρ := ρ) (nl := nl) s5 (fun h => by cases h) (fun p _ => ⟨rfl, rfl, rfl⟩) (.inl s3) hl
        have hrr := hi.inv.row (r, pp) row0 (by show RK.rows ρ r (st.rk r) pp = _; rw [s2]; exact hrow0)
        have hh : ∀ l l' : Loc, (l.1 = r ∧ l'.1 = nb sg.ps i + q ∧ l.2 = l'.2) → (lendG g R).hdr l' = g.hdr l := fun l l' ⟨h1, h2, h3⟩ => by
          obtain ⟨l1, l2⟩ := l
          obtain ⟨l3, l4⟩ := l'
          simp only at h1 h2 h3
          subst h1 h2 h3
          exact lend_hdr hRj l2
        have ho : ∀ b, g.own b = some (r, pp) → (lendG g R).own b = some (nb sg.ps i + q, pp) ∧ w.heap[b]? = w.heap[b]? := fun b hb => ⟨by simp only [lendG, hb, get_posOf hnd hRj]; rfl, rfl⟩
        exact hrr.rel hh (fun _ _ h => h.elim) (lend_hdr hRj pp) ho hrel
      | iob e t =>
        obtain ⟨c, v, q1, q2, q3⟩ := e3 i _ hp
        have hcl := callArg_len q3
        have hlf := hleaf i _ c hp q1 hcl
        simp only [callArg] at q3
        have hb0 := ok_bind q3
        clear q3
        obtain ⟨⟨ys, rs⟩, hx, q3⟩ := hb0
        cases q3
        obtain ⟨rs', r1, r2⟩ := callRoots_gen _ _ _ hR i v _ hp q2
        simp only [parR, hx, bind, Except.bind, Except.ok.injEq] at r1
        subst r1
        obtain ⟨r, cells, rs2, rfl, hrk, htv, rfl⟩ := boxVals_get hx
        simp only [parRoots] at hq
        cases q with
        | succ q =>
          simp only [List.getElem?_cons_succ, List.getElem?_replicate] at hq
          split at hq
          · cases hq; rw [rows_dead] at hl; cases hl
          · cases hq
        | zero =>
          simp only [List.getElem?_cons_zero, Option.some.injEq] at hq
          subst hq
          rw [Nat.add_zero] at hl ⊢
          have hRj := r2 0 r rfl
          rw [Nat.add_zero] at hRj
          obtain ⟨t1, t2, t3, t4, t5⟩ := tok_rep (R := R) (ρ' := [⟨sg.p, x0⟩]) hi (t.lp (partPath sg.ps.length i)) cells ys rs2 (nb sg.ps i + 1) (by rw [lp_fst]; exact htv) hlf (fun j r' hj => by
            have := r2 (j + 1) r' (by simpa using hj)
            rwa [show nb sg.ps i + 1 + j = nb sg.ps i + (j + 1) from by omega])
          cases pp with
          | cons _ _ => simp [RK.rows] at hl
          | nil =>
            simp only [RK.rows, Option.some.injEq] at hl
            subst hl
            have hrr := hi.inv.row (r, []) (.row true false e [encL ρ cells]) (by simp only [hrk, RK.rows])
            refine hrr.rel mlR_hd mrN_reg (lend_hdr hRj []) (fun b hb => ⟨by simp only [lendG, hb, get_posOf hnd hRj]; rfl, rfl⟩) (.row _ _ _ _ _ _ (fun h => h) rfl (fun i c c' q1 q2 => ?_) (fun i c c' k x x' q1 q2 q3 q4 => ?_))
            · cases i with
              | zero => cases q1; cases q2; rw [encL_map, encL_map, List.length_map, List.length_map, t4, t1]
              | succ i => cases q1
            · cases i with
              | zero => cases q1; cases q2; exact t5 k x x' q3 q4
              | succ i => cases q1
      | tok e t =>
        simp only [parRoots] at hq
        cases q with
        | succ q => simp at hq
        | zero => cases hq; rw [rows_dead] at hl; cases hl
      | _ => simp [parRoots] at hq
  · rcases hb with hb | ⟨l, hl, _⟩
    · exact (hok.S b hb).1
    · exact (hok.own b l hl).2.1
  · obtain ⟨l0, h0, h1, _, _⟩ := lend_own hl
    refine ⟨(hok.own b l0 h0).2.1, fun hS => ?_⟩
    rcases hS with hS | ⟨l1, h2, h3⟩
    · exact (hok.own b l0 h0).2.2 hS
    · rw [h0] at h2; cases h2; rw [h1] at h3; cases h3
end
end Go.Pu
/-
  Own work. Calls, the way out.
-/
namespace Go.Pu
open Go Go.RowKit
set_option linter.unusedVariables false
set_option linter.unusedSectionVars false

/-! ### Headers only, of the roots that are not read -/
def plOf2 (ph pr : Nat → Bool) (l : Loc) : Prop := ph l.1 = true ∧ (l.2 = [] ∨ pr l.1 = true)
section
variable {ph pr : Nat → Bool} {ρ : Env}
mutual
theorem SC.okR_ok2 : ∀ (c : SC), c.okR ph pr = true → C.Ok (plOf2 ph pr) (prOf pr) (c.enc ρ)
  | .v x, _ => by simp only [SC.enc]; exact vc_ok _
  | .s none x, _ => by simp only [SC.enc]; exact els_ok (fun r h => by cases h) _
  | .s (some r) x, h => by simp only [SC.okR] at h; simp only [SC.enc]; exact els_ok (fun r' h' => by cases h'; exact h) _
  | .nil, _ => by simp only [SC.enc]; exact .nil
  | .h r, h => by simp only [SC.okR] at h; simp only [SC.enc]; exact .hd _ ⟨h, .inl rfl⟩
  | .hn r i k x, h => by
    simp only [SC.okR, Bool.and_eq_true] at h; simp only [SC.enc]
    exact .both _ _ (.hd _ ⟨h.1, .inr h.2⟩) (els_ok (fun r' h' => by cases h'; exact h.2) _)
  | .hs r lo hi x, h => by
    simp only [SC.okR, Bool.and_eq_true] at h; simp only [SC.enc]
    exact .both _ _ (.sub _ _ _ _ ⟨h.1, .inl rfl⟩) (els_ok (fun r' h' => by cases h'; exact h.2) _)
  | .tk r x, h => by simp only [SC.okR] at h; simp only [SC.enc]; exact .both _ _ (.hd _ ⟨h, .inl rfl⟩) (els_ok (fun r h => by cases h) _)
  | .rp rg cells, h => by
    simp only [SC.okR, Bool.and_eq_true] at h; simp only [SC.enc]
    exact .rp _ _ (fun r h' => by subst h'; exact h.1) (okL_ok2 cells h.2)
  | .fn f caps, h => by simp only [SC.okR] at h; simp only [SC.enc]; exact .fn _ _ (okL_ok2 caps h)
  | .gone, _ => by simp only [SC.enc]; exact .gone
theorem okL_ok2 : ∀ (cs : List SC), okL ph pr cs = true → ∀ (k : Nat) (q : C), (encL ρ cs)[k]? = some q → C.Ok (plOf2 ph pr) (prOf pr) q
  | [], _, k, q, hq => by simp [encL] at hq
  | c :: cs, h, 0, q, hq => by
    simp only [okL, Bool.and_eq_true] at h
    simp only [encL, List.getElem?_cons_zero, Option.some.injEq] at hq
    subst hq; exact SC.okR_ok2 c h.1
  | c :: cs, h, k + 1, q, hq => by
    simp only [okL, Bool.and_eq_true] at h
    simp only [encL, List.getElem?_cons_succ] at hq
    exact okL_ok2 cs h.2 k q hq
end
theorem SV.okR_ok2 (v : SV) (h : v.okR ph pr = true) : PV.Ok (plOf2 ph pr) (prOf pr) (v.enc ρ) := by
  cases v with
  | c x => exact SC.okR_ok2 x h
  | agg xs => exact okL_ok2 xs h
  | ad r e i k => exact ⟨h, .inl rfl⟩
  | ra rg cells =>
    simp only [SV.okR, Bool.and_eq_true] at h
    exact ⟨fun r h' => by subst h'; exact h.1, okL_ok2 cells h.2⟩
  | tup rs =>
    simp only [SV.okR, List.all_eq_true] at h
    intro k r hr
    rw [List.getElem?_map, Option.map_eq_some_iff] at hr
    obtain ⟨y, hy, rfl⟩ := hr
    have h1 := okL_ok2 (ρ := ρ) y.2 (h y (List.mem_of_getElem? hy))
    unfold encR
    split
    · exact h1
    · split
      · rename_i c cs hc; exact h1 0 c (by rw [hc]; rfl)
      · exact .gone
  | und => trivial
  | junk => trivial
theorem RK.okR_ok2 {r : Nat} (k : RK) (h : k.okR ph pr = true) (hr : ph r = true ∧ pr r = true) (p : List (Nat × Nat)) (row : Row) (hrow : k.rows ρ r p = some row) : Row.Ok (plOf2 ph pr) (prOf pr) row := by
  cases k with
  | box e cells =>
    cases p with
    | cons q p => simp [RK.rows] at hrow
    | nil =>
      simp only [RK.rows, Option.some.injEq] at hrow
      subst hrow
      intro i cs k q h1 h2
      cases i with
      | zero => cases h1; exact okL_ok2 cells h k q h2
      | succ i => cases h1
  | list e b v nl inner =>
    refine RK.okR_ok (ph := fun _ => false) (pl := plOf2 ph pr) (ρ := ρ) (r := r) _ ?_ (fun p _ => ⟨hr.1, .inr hr.2⟩) (fun l hl => by simp [plOf] at hl) p row hrow
    cases inner with
    | none => rfl
    | some rg => cases rg with
      | none => rfl
      | some r2 => exact h
  | _ => exact RK.okR_ok (ph := fun _ => false) (pl := plOf2 ph pr) (ρ := ρ) (r := r) _ rfl (fun p _ => ⟨hr.1, .inr hr.2⟩) (fun l hl => by simp [plOf] at hl) p row hrow
end

/-! ### Roots struck -/
section
variable {X : Ctx} {D : Nat → Prop} {Γ : List FE} {st : St} {ρ : Env} {a : Act} {w : World} {g : G}
theorem killR_ok (hd : ∀ b, ¬ D b) : ∀ (l : List (Nat × Bool)) (st : St), TInv X D st ρ a w g → TInv X D (killR l st) ρ a w g
  | [], st, h => h
  | (r, io) :: l, st, h => by
    simp only [killR]
    split
    · rename_i hc
      simp only [Bool.and_eq_true, Bool.or_eq_true, Bool.not_eq_true'] at hc
      refine killR_ok hd l _ ?_
      exact h.mut hc.1 (all := !io) (r := r) ⟨fun _ _ _ _ => rfl, fun _ _ _ b hb => ⟨hb, rfl⟩⟩ h.inv.ok .dead (fun p row hp => by rw [rows_dead] at hp; cases hp) (fun e => by
        rcases hc.2 with hc | hc
        · rw [hc] at e; cases e
        · exact hc) (fun b l _ hb => ⟨hb, rfl⟩) st.dirty h.dirt
    · exact killR_ok hd l st h
theorem killR_ts : ∀ (l : List (Nat × Bool)) (st : St), (killR l st).ts = st.ts ∧ (killR l st).fix = st.fix
  | [], st => ⟨rfl, rfl⟩
  | (r, io) :: l, st => by
    simp only [killR]
    split
    · have := killR_ts l ((st.kill (!io) r).setR r .dead); exact ⟨this.1, this.2⟩
    · exact killR_ts l st
end

def imR (n : Nat) (f : Nat → Nat) (x : Bool × List SC) : Bool × List SC := (x.1, x.2.map (SC.im n f))
def SC.plain : SC → Bool
  | .v (.r q) => Nat.beq q.n 0
  | .h _ => true
  | .gone => true
  | _ => false
def RK.plain : RK → Bool
  | .box _ cs => cs.all SC.plain
  | .list _ a (.r q) _ none => Nat.beq q.n 0 && a.flat1
  | .dead => true
  | _ => false
theorem ownCs_im {n r r' : Nat} {f : Nat → Nat} (hf : ∀ j, f (r + j) = r' + j) : ∀ (ls : List (Ty × List Bool)) (k : Nat), ownCs n ls (r' + k) = (ownCs 0 ls (r + k)).map (SC.im n f)
  | [], k => rfl
  | (t, p) :: ls, k => by
    cases t with
    | sl e a => simp only [ownCs, List.map_cons, SC.im, hf]; rw [Nat.add_assoc, Nat.add_assoc, ownCs_im hf ls (k + 1)]
    | _ => simp only [ownCs, List.map_cons, SC.im]; rw [ownCs_im hf ls k]
theorem resCs_im {n m r r' : Nat} {f : Nat → Nat} (hf : ∀ j, f (r + j) = r' + j) : ∀ (rs : List Res) (i k : Nat), resCs n m i (r' + k) rs = (resCs 0 m i (r + k) rs).map (imR n f)
  | [], i, k => rfl
  | .val agg t nl :: rs, i, k => by
    simp only [resCs, List.map_cons, imR]
    rw [ownCs_im hf, Nat.add_assoc, Nat.add_assoc, resCs_im hf rs (i + 1) (k + t.sls)]
  | .ptr e t :: rs, i, k => by
    simp only [resCs, List.map_cons, imR, List.map_nil, SC.im]
    rw [show r + k + t.sls = r + (k + t.sls) from by omega, hf, show r' + k + t.sls + 1 = r' + (k + t.sls + 1) from by omega, show r + (k + t.sls) + 1 = r + (k + t.sls + 1) from by omega, resCs_im hf rs (i + 1) (k + t.sls + 1)]
    simp only [Nat.add_assoc]
  | .ptrK e t tk :: rs, i, k => by
    simp only [resCs, List.map_cons, imR, List.map_nil, SC.im]
    rw [hf, show r' + k + 1 = r' + (k + 1) from by omega, show r + k + 1 = r + (k + 1) from by omega, resCs_im hf rs (i + 1) (k + 1)]
theorem tkOut_plain {pth : Nat → List Bool} : ∀ (ls : List Ty) (r s : Nat), (tkOut 0 pth ls r s).all SC.plain = true
  | [], _, _ => rfl
  | t :: ls, r, s => by
    cases t with
    | sl e a => simp only [tkOut, List.all_cons, tkOut_plain ls, Bool.and_true]; rfl
    | int k => simp only [tkOut, Ty.scalar, if_true, List.all_cons, tkOut_plain ls, Bool.and_true]; rfl
    | bool => simp only [tkOut, Ty.scalar, if_true, List.all_cons, tkOut_plain ls, Bool.and_true]; rfl
    | _ => simp only [tkOut, Ty.scalar, Bool.false_eq_true, if_false, List.all_cons, tkOut_plain ls, Bool.and_true]; rfl
theorem ownCs_plain : ∀ (ls : List (Ty × List Bool)) (r : Nat), (ownCs 0 ls r).all SC.plain = true
  | [], _ => rfl
  | (t, p) :: ls, r => by cases t <;> simp only [ownCs, List.all_cons, ownCs_plain ls, Bool.and_true] <;> rfl
theorem leaves_flat2 : ∀ (t : Ty), t.flat2 = true → ∀ u ∈ t.leaves, u.flat2 = true
  | .pr a b, h, u, hu => by
    simp only [Ty.flat2, Bool.and_eq_true] at h
    simp only [Ty.leaves, List.mem_append] at hu
    rcases hu with hu | hu
    · exact leaves_flat2 a h.1 u hu
    · exact leaves_flat2 b h.2 u hu
  | .int k, h, u, hu => by simp only [Ty.leaves, List.mem_singleton] at hu; subst hu; exact h
  | .bool, h, u, hu => by simp only [Ty.leaves, List.mem_singleton] at hu; subst hu; exact h
  | .unit, h, u, hu => by simp [Ty.leaves] at hu
  | .sl e a, h, u, hu => by simp only [Ty.leaves, List.mem_singleton] at hu; subst hu; exact h
  | .mp, h, u, hu => by simp only [Ty.leaves, List.mem_singleton] at hu; subst hu; exact h
theorem ownRs_plain {nl : Bool} : ∀ (ls : List (Ty × List Bool)), (∀ x ∈ ls, x.1.flat2 = true) → (ownRs nl 0 ls).all RK.plain = true
  | [], _ => rfl
  | (t, p) :: ls, h => by
    have ih := ownRs_plain (nl := nl) ls (fun x hx => h x (List.mem_cons_of_mem _ hx))
    have h0 := h (t, p) List.mem_cons_self
    cases t with
    | sl e a =>
      simp only [ownRs, List.all_cons, ih, Bool.and_true]
      simp only [Ty.flat2] at h0
      simp [RK.plain, h0]
    | _ => simp only [ownRs]; exact ih
theorem lp_flat2 {t : Ty} {p : List Bool} (h : t.flat2 = true) : ∀ x ∈ t.lp p, x.1.flat2 = true := fun x hx => by
  have : x.1 ∈ (t.lp p).map (·.1) := List.mem_map_of_mem hx
  rw [lp_fst] at this
  exact leaves_flat2 t h _ this
theorem resRs_plain {m : Nat} : ∀ (rs : List Res) (i r : Nat), rs.all (fun r => r.ty.flat2) = true → (resRs 0 m i r rs).all RK.plain = true
  | [], _, _, _ => rfl
  | .val agg t nl :: rs, i, r, h => by
    simp only [List.all_cons, Bool.and_eq_true, Res.ty] at h
    simp only [resRs, List.all_append, Bool.and_eq_true]
    exact ⟨ownRs_plain _ (lp_flat2 h.1), resRs_plain rs _ _ h.2⟩
  | .ptr e t :: rs, i, r, h => by
    simp only [List.all_cons, Bool.and_eq_true, Res.ty] at h
    simp only [resRs, List.all_append, List.all_cons, Bool.and_eq_true]
    exact ⟨ownRs_plain _ (lp_flat2 h.1), ownCs_plain _ _, resRs_plain rs _ _ h.2⟩
  | .ptrK e t tk :: rs, i, r, h => by
    simp only [List.all_cons, Bool.and_eq_true, Res.ty] at h
    simp only [resRs, List.all_cons, Bool.and_eq_true]
    exact ⟨tkOut_plain _ _ _, resRs_plain rs _ _ h.2⟩
theorem postRs_plain {m : Nat} : ∀ (ps : List Par) (i r : Nat), (ps.flatMap Par.io).all Ty.flat2 = true → (postRs 0 m i r ps).all RK.plain = true
  | [], _, _, _ => rfl
  | p :: ps, i, r, h => by
    simp only [List.flatMap_cons, List.all_append, Bool.and_eq_true] at h
    cases p with
    | own agg t io =>
      cases io with
      | true =>
        simp only [postRs, List.all_append, Bool.and_eq_true]
        refine ⟨ownRs_plain _ fun x hx => ?_, postRs_plain ps _ _ h.2⟩
        obtain ⟨y, hy, rfl⟩ := List.mem_map.1 hx
        have := List.fst_mem_of_mem_zipIdx hy
        exact List.all_eq_true.1 h.1 _ this
      | false =>
        simp only [postRs, List.all_append, Bool.and_eq_true]
        refine ⟨List.all_eq_true.2 fun k hk => ?_, postRs_plain ps _ _ h.2⟩
        rw [List.mem_replicate] at hk
        rw [hk.2]; rfl
    | iob e t =>
      simp only [postRs, List.all_append, List.all_cons, Bool.and_eq_true]
      refine ⟨tkOut_plain _ _ _, List.all_eq_true.2 fun k hk => ?_, postRs_plain ps _ _ h.2⟩
      rw [List.mem_replicate] at hk
      rw [hk.2]; rfl
    | tok e t =>
      simp only [postRs, List.all_cons, Bool.and_eq_true]
      exact ⟨rfl, postRs_plain ps _ _ h.2⟩
    | _ => simp only [postRs]; exact postRs_plain ps i _ h.2
theorem resCs_plain {m : Nat} : ∀ (rs : List Res) (i r : Nat), ∀ x ∈ resCs 0 m i r rs, x.2.all SC.plain = true
  | [], _, _, x, h => by simp [resCs] at h
  | .val agg t nl :: rs, i, r, x, h => by
    simp only [resCs, List.mem_cons] at h
    rcases h with rfl | h
    · exact ownCs_plain _ _
    · exact resCs_plain rs _ _ x h
  | .ptr e t :: rs, i, r, x, h => by
    simp only [resCs, List.mem_cons] at h
    rcases h with rfl | h
    · rfl
    · exact resCs_plain rs _ _ x h
  | .ptrK e t tk :: rs, _, _, x, h => by
    simp only [resCs, List.mem_cons] at h
    rcases h with rfl | h
    · rfl
    · exact resCs_plain rs _ _ x h
section
variable {ρ : Env} {v : V} {f : Nat → Nat} {w : World} {g' gF : G}
def mlF (f : Nat → Nat) (l l' : Loc) : Prop := l'.1 = f l.1 ∧ l.2 = l'.2
theorem get_end (p : List Bool) : At.get (ρ ++ [v]) (.r ⟨ρ.length, p⟩) = At.get [v] (.r ⟨0, p⟩) := by simp [At.get, Ref.get, List.getD]
theorem im_rel {c : SC} (h : c.plain = true) : C.Rel (mlF f) (fun _ _ => False) (c.enc [v]) ((c.im ρ.length f).enc (ρ ++ [v])) := by
  unfold SC.plain at h
  split at h
  · rename_i q
    have hq := Nat.eq_of_beq_eq_true h
    obtain ⟨n, p⟩ := q
    simp only at hq
    subst hq
    simp only [SC.im, SC.enc, get_end]
    exact vc_rel _
  · simp only [SC.im, SC.enc]; exact .hd _ _ ⟨rfl, rfl⟩
  · simp only [SC.im, SC.enc]; exact .gone _
  · cases h
theorem imL_rel : ∀ (cs : List SC), cs.all SC.plain = true → ∀ (k : Nat) (x x' : C), (encL [v] cs)[k]? = some x → (encL (ρ ++ [v]) (cs.map (SC.im ρ.length f)))[k]? = some x' → C.Rel (mlF f) (fun _ _ => False) x x'
  | [], _, k, x, x', h, _ => by simp [encL] at h
  | c :: cs, hp, k, x, x', h, h' => by
    simp only [List.all_cons, Bool.and_eq_true] at hp
    cases k with
    | zero =>
      simp only [List.map_cons, encL, List.getElem?_cons_zero, Option.some.injEq] at h h'
      subst h h'
      exact im_rel hp.1
    | succ k =>
      simp only [List.map_cons, encL, List.getElem?_cons_succ] at h h'
      exact imL_rel cs hp.2 k x x' h h'
variable (hF : ∀ l l', mlF f l l' → gF.hdr l' = g'.hdr l)
include hF
theorem imAgg {cs : List SC} (hp : cs.all SC.plain = true) {u : Value} (h : AggRep w g' (encL [v] cs) u) : AggRep w gF (encL (ρ ++ [v]) (cs.map (SC.im ρ.length f))) u := by
  obtain ⟨vs, e1, e2, e3⟩ := h
  refine ⟨vs, e1, by rw [e2, encL_map, encL_map]; simp, fun k q hq => ?_⟩
  obtain ⟨q0, hq0⟩ := get_other (l := encL [v] cs) (by rw [encL_map, encL_map]; simp) hq
  obtain ⟨u, hu, hr⟩ := e3 k q0 hq0
  exact ⟨u, hu, hr.rel hF (fun _ _ h => h.elim) (imL_rel cs hp k q0 q hq0 hq)⟩
theorem resSV_im {P : Program} {l : List (Bool × List SC)} (hp : ∀ x ∈ l, x.2.all SC.plain = true) {u : Value} (h : PRep P w g' ((resSV l).enc [v]) u) : PRep P w gF ((resSV (l.map (imR ρ.length f))).enc (ρ ++ [v])) u := by
  have tup : PRep P w g' ((SV.tup l).enc [v]) u → PRep P w gF ((SV.tup (l.map (imR ρ.length f))).enc (ρ ++ [v])) u := fun h => by
    obtain ⟨vs, e1, e2, e3⟩ := h
    refine ⟨vs, e1, by rw [e2]; simp, fun k q hq => ?_⟩
    rw [List.getElem?_map, List.getElem?_map, Option.map_map, Option.map_eq_some_iff] at hq
    obtain ⟨y, hy, rfl⟩ := hq
    obtain ⟨z, hz, hr⟩ := e3 k (encR [v] y) (by rw [List.getElem?_map, hy]; rfl)
    refine ⟨z, hz, ?_⟩
    have hpy := hp y (List.mem_of_getElem? hy)
    obtain ⟨y1, y2⟩ := y
    unfold encR at hr ⊢
    simp only [Function.comp, imR] at hpy hr ⊢
    cases y1 with
    | true => exact imAgg hF hpy hr
    | false =>
      simp only [Bool.false_eq_true, if_false] at hr ⊢
      cases y2 with
      | nil => simp only [List.map_nil, encL] at hr ⊢; exact .gone z
      | cons c cs =>
        simp only [List.map_cons, encL] at hr ⊢
        simp only [List.all_cons, Bool.and_eq_true] at hpy
        exact CRep.rel hr hF (fun _ _ h => h.elim) (im_rel hpy.1)
  match l, hp, h, tup with
  | [], _, h, tup => exact tup h
  | [(false, [])], _, h, tup => exact tup h
  | [(false, [c])], hp, h, _ =>
    have := hp _ List.mem_cons_self
    simp only [List.all_cons, List.all_nil, Bool.and_true] at this
    exact CRep.rel h hF (fun _ _ h => h.elim) (im_rel this)
  | [(false, c :: c2 :: cs)], _, h, tup => exact tup h
  | [(true, cs)], hp, h, _ => exact imAgg hF (hp _ List.mem_cons_self) h
  | (b, cs) :: y :: ys, _, h, tup =>
    have e1 : resSV ((b, cs) :: y :: ys) = .tup ((b, cs) :: y :: ys) := by cases b <;> rcases cs with _ | ⟨c, _ | ⟨c2, cs⟩⟩ <;> rfl
    have e2 : resSV (((b, cs) :: y :: ys).map (imR ρ.length f)) = .tup (((b, cs) :: y :: ys).map (imR ρ.length f)) := by cases b <;> rcases cs with _ | ⟨c, _ | ⟨c2, cs⟩⟩ <;> rfl
    rw [e1] at h
    rw [e2]
    exact tup h
theorem im_rows {P : Program} {j : Nat} {k : RK} (hp : k.plain = true) (hrow : ∀ p row, k.rows [v] j p = some row → RowRep P w g' (j, p) row) (hown : ∀ b p, g'.own b = some (j, p) → gF.own b = some (f j, p)) {p : List (Nat × Nat)} {row : Row}
    (h : (k.im ρ.length f).rows (ρ ++ [v]) (f j) p = some row) : RowRep P w gF (f j, p) row := by
  have fin : ∀ row0, k.rows [v] j p = some row0 → Row.Rel (mlF f) (fun _ _ => False) row0 row → RowRep P w gF (f j, p) row := fun row0 h0 hrel =>
    (hrow p row0 h0).rel hF (fun _ _ h => h.elim) (hF _ _ ⟨rfl, rfl⟩) (fun b hb => ⟨hown b p hb, rfl⟩) hrel
  unfold RK.plain at hp
  split at hp
  · rename_i e cs
    cases p with
    | cons q p => simp [RK.im, RK.rows] at h
    | nil =>
      simp only [RK.im, RK.rows, Option.some.injEq] at h
      subst h
      refine fin _ rfl (.row _ _ _ _ _ _ (fun h => h) rfl (fun i c c' q1 q2 => ?_) (fun i c c' k x x' q1 q2 q3 q4 => ?_))
      · cases i with
        | zero => cases q1; cases q2; rw [encL_map, encL_map]; simp
        | succ i => cases q1
      · cases i with
        | zero => cases q1; cases q2; exact imL_rel cs hp k x x' q3 q4
        | succ i => cases q1
  · rename_i e a q nl
    simp only [Bool.and_eq_true] at hp
    have hq := Nat.eq_of_beq_eq_true hp.1
    obtain ⟨n, pth⟩ := q
    simp only at hq
    subst hq
    simp only [RK.im] at h
    obtain ⟨row0, h0, hrel⟩ := list_rel (ml := mlF f) (mr := fun _ _ => False) (r := j) (r' := f j) (x := .r ⟨0, pth⟩) (x' := .r ⟨ρ.length, pth⟩) (ρ := [v]) (ρ' := ρ ++ [v]) (nl := nl) (by rw [get_end (ρ := ρ)]) (fun h => h) (fun p _ => ⟨rfl, rfl⟩) (.inl hp.2) h
    exact fin row0 h0 hrel
  · simp only [RK.im, rows_dead] at h; cases h
  · cases hp
end
end Go.Pu
/-
  Own work. Calls.
-/
namespace Go.Pu
open Go Go.RowKit
set_option linter.unusedVariables false
set_option linter.unusedSectionVars false

theorem setRs_nr : ∀ (l : List (Nat × RK)) (st : St), (setRs l st).nr = st.nr ∧ (setRs l st).slots = st.slots ∧ (setRs l st).ts = st.ts ∧ (setRs l st).fix = st.fix
  | [], st => ⟨rfl, rfl, rfl, rfl⟩
  | (r, k) :: l, st => by
    obtain ⟨h1, h2, h3, h4⟩ := setRs_nr l (st.setR r k)
    exact ⟨h1.trans (by simp [St.setR, St.nr]), h2, h3, h4⟩
theorem setRs_other : ∀ (l : List (Nat × RK)) (st : St) (r : Nat), (∀ k, (r, k) ∉ l) → (setRs l st).rk r = st.rk r
  | [], st, r, _ => rfl
  | (r0, k) :: l, st, r, h => by
    simp only [setRs]
    rw [setRs_other l _ r (fun k' hk' => h k' (List.mem_cons_of_mem _ hk'))]
    exact setR_rk_ne (fun e => h k (by rw [e]; exact List.mem_cons_self))
theorem setRs_get : ∀ (R : List Nat) (ks : List RK) (st : St), nodup R = true → ∀ (j r : Nat) (k : RK), R[j]? = some r → ks[j]? = some k → (setRs (R.zip ks) st).rk r = k ∨ (setRs (R.zip ks) st).rk r = .dead
  | [], _, _, _, j, r, k, h, _ => by simp at h
  | r0 :: R, [], _, _, j, r, k, _, h => by simp at h
  | r0 :: R, k0 :: ks, st, hn, j, r, k, h1, h2 => by
    simp only [nodup, Bool.and_eq_true, Bool.not_eq_true'] at hn
    simp only [List.zip_cons_cons, setRs]
    cases j with
    | zero =>
      simp only [List.getElem?_cons_zero, Option.some.injEq] at h1 h2
      subst h1 h2
      rw [setRs_other (R.zip ks) _ r0 (fun k' hk' => by
        have : r0 ∈ R := (List.of_mem_zip hk').1
        have h3 : R.contains r0 = true := by simpa using this
        rw [h3] at hn; cases hn.1)]
      exact setR_rk st r0 k0
    | succ j => exact setRs_get R ks (st.setR r0 k0) hn.2 j r k (by simpa using h1) (by simpa using h2)
theorem mapM_ok {α β : Type} {f : α → M β} : ∀ (os : List α) (us : List β), os.mapM f = .ok us → us.length = os.length ∧ ∀ (i : Nat) (u : β), us[i]? = some u → ∃ o, os[i]? = some o ∧ f o = .ok u
  | [], us, h => by
    simp only [List.mapM_nil] at h
    cases h
    exact ⟨rfl, fun i u h => by simp at h⟩
  | o :: os, us, h => by
    rw [List.mapM_cons] at h
    obtain ⟨u, hu, h⟩ := ok_bind h
    obtain ⟨us', hus, h⟩ := ok_bind h
    cases h
    obtain ⟨e1, e2⟩ := mapM_ok os us' hus
    refine ⟨by simp [e1], fun i v hv => ?_⟩
    cases i with
    | zero => simp only [List.getElem?_cons_zero, Option.some.injEq] at hv; subst hv; exact ⟨o, rfl, hu⟩
    | succ i => simpa using e2 i v (by simpa using hv)
theorem findS_mem {st : St} {f : FuncId} {os : List Operand} {s : Sig} : ∀ {ss : List Sig}, findS st ss f os = some s → s ∈ ss ∧ s.f = f
  | [], h => by cases h
  | s0 :: ss, h => by
    simp only [findS] at h
    split at h
    · rename_i hc; cases h; exact ⟨List.mem_cons_self, hc.1⟩
    · obtain ⟨h1, h2⟩ := findS_mem h; exact ⟨List.mem_cons_of_mem _ h1, h2⟩
section
variable {X : Ctx} {Γ : List FE} {ss : List Sig} {st : St} {ρ : Env} {a : Act} {w : World} {g : G}
variable {d : Nat} {x y : Operand} {t t' ty : TypeId} {ps : String} {af : Array Edge} {gd : Option (Nat × Bool)} {s : Step} {nr : Bool}
theorem callV0_ok (hS : Specs X.P ss Γ) {sg : Sig} (hmem : sg ∈ ss) (hN : d < X.N) {vs : List SV} (h : callV0 st d sg vs = .ok s) (hi : TInv X NoD st ρ a w g) (hw : st.wf = true) (hk : st.rok = true) {ρ' : Env} (hev : evalB Γ (s.es.map (·.1)) ρ = some ρ')
    {argv : Array Value} (hsz : argv.size = vs.length) (hargs : ∀ (i : Nat) (sv : SV), vs[i]? = some sv → PRep X.P w g (sv.enc ρ) (argv.getD i undef)) :
    Calls X.P sg.f argv w (fun e w' => ∃ v, e = .returned v ∧ (sg.flags.isEmpty = true → RelD NoD w w') ∧ ∃ g', TInv X NoD s.st ρ' (a.put (some d) v) w' g' ∧
      ∀ R, callRoots st sg.ps vs = .ok R → (∀ r p, r < st.nr → R.contains r = false → g'.hdr (r, p) = g.hdr (r, p)) ∧ (∀ (j r : Nat), R[j]? = some r → sg.flags[j]? = some true → g'.hdr (r, []) = g.hdr (r, [])) ∧
        (∀ r, r < st.nr → goneR (R.zip sg.flags) r = false → g'.hdr (r, []) = g.hdr (r, [])) ∧ (∀ b, g.S b → g'.S b ∧ w'.heap[b]? = w.heap[b]?) ∧ ∃ v', ρ' = ρ ++ [v']) := by
  unfold callV0 at h
  obtain ⟨R, hR, h⟩ := ok_bind h
  obtain ⟨xs, hxs, h⟩ := ok_bind h
  simp only at h
  generalize hst1 : killR (R.zip sg.flags) st = st1 at h
  by_cases hc : (nodup R = true ∧ R.length = sg.flags.length ∧ (postRs 0 sg.m sg.rs.length 0 sg.ps).length = R.length ∧ R.all (fun r => Nat.blt r st.nr) = true ∧ sg.rs.all (fun r => r.ty.flat2) = true ∧ (sg.ps.flatMap Par.io).all Ty.flat2 = true ∧
      st1.okR (fun r => Nat.blt r st.nr && !goneR (R.zip sg.flags) r) (fun r => Nat.blt r st.nr && !R.contains r) = true ∧ st.fix.all (fun r => Nat.blt r st.nr && !goneR (R.zip sg.flags) r) = true ∧ st1.nr = st.nr ∧ st1.wf = true ∧ vs.length = sg.ps.length ∧ st.dirty.isEmpty = true)
  case neg => rw [if_pos hc] at h; cases h
  rw [if_neg (fun hh => hh hc)] at h
  obtain ⟨hnd, hRl, hpl, hRlt, hf1, hf2, hokR, hfix, hnr1, hwf1, hvl, _⟩ := hc
  simp only [Except.ok.injEq] at h
  subst h
  obtain ⟨fn, hfe, ⟨F, hF, hname, hbody⟩, hrun⟩ := hS sg hmem
  obtain ⟨v', hv', rfl⟩ := evalB_one hev
  simp only [Ex.den1, Ex.den, hfe, Option.bind_eq_some_iff, Option.some.injEq] at hv'
  obtain ⟨yv, hy, rfl⟩ := hv'
  have hpre := pre_ok hi hR hxs hnd hsz hargs
  have hok := hi.inv.ok
  refine Calls.mono (hrun _ yv w _ _ hpre hy) fun e w' ⟨v, he, hpost⟩ => ?_
  subst he
  obtain ⟨hchg, g', hgown, hghd, hgrep, hgrow⟩ := hpost
  have hkept : ∀ k, k < w.heap.size → (lendG g R).own k = none → w'.heap[k]? = w.heap[k]? := fun k hk h0 => hchg.block k hk (fun ⟨l, hl⟩ => by rw [h0] at hl; cases hl)
  have notR : ∀ (b : Nat) (l : Loc), g.own b = some l → R.contains l.1 = false → (lendG g R).own b = none := fun b l hl hc => by
    simp only [lendG, hl, posOf_none hc]; rfl
  have notS : ∀ b, g.S b → (lendG g R).own b = none := fun b hb => by
    cases ho : g.own b with
    | none => simp only [lendG, ho]
    | some l => exact absurd hb (hok.own b l ho).2.2
  refine ⟨v, rfl, fun e => ⟨hchg.size, fun b hb _ => hkept b hb ?_⟩, ?_⟩
  · have := e
    have hR0 : R = [] := List.eq_nil_of_length_eq_zero (by rw [hRl]; simpa using this)
    cases ho : g.own b with
    | none => simp only [lendG, ho]
    | some l => exact notR b l ho (by rw [hR0]; rfl)
  -- the roots' new numbers
  have hk0 : sg.k0 = R.length := hRl.symm
  let gF : G := { S := g.S, own := fun b => if b < w.heap.size ∧ (lendG g R).own b = none then g.own b else (g'.own b).map fun l => ((callF R st.nr) l.1, l.2), hdr := fun l => match posOf R l.1 with | some j => g'.hdr (j, l.2) | none => if st.nr ≤ l.1 then g'.hdr (R.length + (l.1 - st.nr), l.2) else g.hdr l }
  have hRlt' : ∀ (j r : Nat), R[j]? = some r → r < st.nr := fun j r hj => by simpa using List.all_eq_true.1 hRlt r (List.mem_of_getElem? hj)
  have hnone : ∀ r, st.nr ≤ r → posOf R r = none := fun r hr => posOf_none (by
    cases hc : R.contains r with
    | false => rfl
    | true =>
      have hm : r ∈ R := by simpa using hc
      have := List.all_eq_true.1 hRlt r hm
      simp at this; omega)
  have hhdF : ∀ l l', mlF (callF R st.nr) l l' → gF.hdr l' = g'.hdr l := fun l l' ⟨h1, h2⟩ => by
    obtain ⟨j, p⟩ := l
    obtain ⟨r, p'⟩ := l'
    simp only at h1 h2
    subst h2
    simp only [gF]
    by_cases hj : j < R.length
    · have hjr : R[j]? = some r := by rw [h1]; simp only [callF, if_pos hj]; rw [List.getD, List.getElem?_eq_getElem hj]; rfl
      rw [get_posOf hnd hjr]
    · have hr : r = st.nr + (j - R.length) := by rw [h1]; simp only [callF, if_neg hj]
      rw [hnone r (by omega), if_pos (by omega)]
      rw [show R.length + (r - st.nr) = j from by omega]
  have hownF : ∀ (b : Nat) (l : Loc), g'.own b = some l → gF.own b = some ((callF R st.nr) l.1, l.2) := fun b l hl => by
    simp only [gF]
    rw [if_neg, hl]; rfl
    rintro ⟨h1, h2⟩
    rcases (hgown b l hl).1 with ⟨l0, h0⟩ | h0
    · rw [h2] at h0; cases h0
    · omega
  have hts := killR_ts (R.zip sg.flags) st
  rw [hst1] at hts
  have hi1 : TInv X NoD st1 ρ a w g := by rw [← hst1]; exact killR_ok (fun _ h => h) _ st hi
  have hi2 := hi1.bindOne hwf1 (v := ⟨sg.r, yv⟩) (t := sg.r) rfl
  have hnx : st.nx = ρ.length := by rw [hi.len]; rfl
  have hlt : d < a.tmps.size := by rw [hi.inv.size]; exact hN
  have hokR2 := hokR
  unfold St.okR at hokR
  simp only [Bool.and_eq_true] at hokR
  have hf0 : ∀ j, (callF R st.nr) (sg.k0 + j) = st.nr + j := fun j => by simp only [callF]; rw [if_neg (by omega)]; omega
  have hh : ∀ l, plOf2 (fun r => Nat.blt r st.nr && !goneR (R.zip sg.flags) r) (fun r => Nat.blt r st.nr && !R.contains r) l → gF.hdr l = g.hdr l := fun l hl => by
    obtain ⟨r, p⟩ := l
    obtain ⟨h1, h2⟩ := hl
    simp only [Bool.and_eq_true, Nat.blt_eq, Bool.not_eq_true'] at h1 h2
    simp only [gF]
    cases hc : R.contains r with
    | false => rw [posOf_none hc, if_neg (by omega)]
    | true =>
      obtain ⟨j, hj⟩ := posOf_some hc
      rw [hj]
      have hjr := posOf_get hj
      rcases h2 with rfl | ⟨_, h2⟩
      · have hjl : j < R.length := (List.getElem?_eq_some_iff.1 hjr).1
        have hfl : sg.flags[j]? = some (sg.flags[j]'(by omega)) := List.getElem?_eq_getElem (by omega)
        have htrue : sg.flags[j]? = some true := by
          cases hb : sg.flags[j]'(by omega) with
          | true => rw [hfl, hb]
          | false =>
            exfalso
            have hz : (R.zip sg.flags)[j]? = some (r, false) := by rw [List.getElem?_zip_eq_some]; exact ⟨hjr, by rw [hfl, hb]⟩
            have hm := List.mem_of_getElem? hz
            have : goneR (R.zip sg.flags) r = true := by
              unfold goneR
              rw [List.any_eq_true]
              exact ⟨_, hm, by simp⟩
            rw [this] at h1; cases h1.2
        show g'.hdr (j, []) = g.hdr (r, [])
        rw [hghd j htrue]
        exact lend_hdr hjr []
      · rw [hc] at h2; cases h2
  have hr : ∀ rg, prOf (fun r => Nat.blt r st.nr && !R.contains r) rg → ∀ b, g.reg rg b → gF.reg rg b ∧ w'.heap[b]? = w.heap[b]? := fun rg hrg b hb => by
    have hSS : g.S b → gF.S b ∧ w'.heap[b]? = w.heap[b]? := fun hb => ⟨hb, hkept b (hok.S b hb).1 (notS b hb)⟩
    cases rg with
    | none => exact hSS hb
    | some r =>
      rcases hb with hb | ⟨p, hb⟩
      · exact ⟨.inl (hSS hb).1, (hSS hb).2⟩
      · have hp := hrg r rfl
        simp only [Bool.and_eq_true, Nat.blt_eq, Bool.not_eq_true'] at hp
        have hn := notR b (r, p) hb hp.2
        have hlt := (hok.own b _ hb).2.1
        exact ⟨.inr ⟨p, by simp only [gF]; rw [if_pos ⟨hlt, hn⟩]; exact hb⟩, hkept b hlt hn⟩
  obtain ⟨n1, n2, n3, n4⟩ := setRs_nr (R.zip ((postRs 0 sg.m sg.rs.length 0 sg.ps).map (RK.im st.nx (callF R st.nr)))) (st1.bind sg.r)
  refine ⟨gF, ⟨?_, hi2.inv.next (plOf2 (fun r => Nat.blt r st.nr && !goneR (R.zip sg.flags) r) (fun r => Nat.blt r st.nr && !R.contains r)) (prOf (fun r => Nat.blt r st.nr && !R.contains r)) hh hr ⟨hok.chg.trans (hchg.of fun k hk hO => ⟨Nat.lt_of_lt_of_le hk hok.base, fun ⟨l, hl⟩ => ?_⟩), Nat.le_trans hok.base hchg.size, fun b hb => ⟨Nat.lt_of_lt_of_le (hok.S b hb).1 hchg.size, (hok.S b hb).2⟩, fun b l hl => ?_⟩ (by simp [Act.put]) rfl (fun i => ?_) (fun l row hl => ?_), fun r hr0 => ?_, ⟨fun b hb => hb.elim, fun r b q hq => by { have e0 : (callEnd st st1 d sg R).dirty = [] := rfl; rw [e0] at hq; cases hq }⟩⟩, fun R2 hR2 => ?_⟩
  · show _ = (callEnd st st1 d sg R).ts
    unfold callEnd
    simp only [St.put, n3]
    exact hi2.typ
  · obtain ⟨l0, h0, _⟩ := lend_own hl
    rcases (hok.own k l0 h0).1 with h | h
    · exact hO h
    · omega
  · simp only [gF] at hl
    split at hl
    · obtain ⟨h1, h2, h3⟩ := hok.own b l hl
      exact ⟨h1, Nat.lt_of_lt_of_le h2 hchg.size, h3⟩
    · rename_i hneg
      rw [Option.map_eq_some_iff] at hl
      obtain ⟨l0, hl0, _⟩ := hl
      obtain ⟨h1, h2⟩ := hgown b l0 hl0
      rcases h1 with ⟨l1, h1⟩ | h1
      · obtain ⟨l2, h3, _⟩ := lend_own h1
        obtain ⟨q1, _, q3⟩ := hok.own b l2 h3
        exact ⟨q1, h2, q3⟩
      · exact ⟨.inr (Nat.le_trans hok.base h1), h2, fun hS => by have := (hok.S b hS).1; omega⟩
  · have hslot : (callEnd st st1 d sg R).slot i = ((st1.bind sg.r).put d (resSV (resCs st.nx sg.m 0 st.nr sg.rs))).slot i := by
      unfold callEnd St.put St.slot
      simp only [n2]
    show _ ∨ _ ∨ PRep X.P w' gF (((callEnd st st1 d sg R).slot i).enc (ρ ++ [⟨sg.r, yv⟩])) _
    rcases St.slot_put (st1.bind sg.r) d i (resSV (resCs st.nx sg.m 0 st.nr sg.rs)) with ⟨e, rfl⟩ | ⟨e, hs⟩ | e
    · right; right
      rw [hslot, e]
      simp only [Act.put]
      rw [getD_set_eq _ _ _ hlt]
      have e1 := resCs_im (n := ρ.length) (m := sg.m) hf0 sg.rs 0 0
      rw [Nat.add_zero, Nat.add_zero] at e1
      rw [hnx, e1]
      exact resSV_im hhdF (resCs_plain sg.rs 0 sg.k0) hgrep
    · right; left
      refine ⟨by show SV.enc _ ((callEnd st st1 d sg R).slot i) = SV.enc _ ((st1.bind sg.r).slot i); rw [hslot, e], ?_, ?_⟩
      · simp only [Act.put]
        rw [getD_set_ne' _ _ _ _ (Ne.symm hs)]
      · exact SV.okR_ok2 _ (all_slot hokR.1 rfl i)
    · left
      show SV.enc _ ((callEnd st st1 d sg R).slot i) = .junk
      rw [hslot, e]; rfl
  · obtain ⟨r, p⟩ := l
    have hl : RK.rows (ρ ++ [⟨sg.r, yv⟩]) r ((callEnd st st1 d sg R).rk r) p = some row := hl
    have hrk : (callEnd st st1 d sg R).rk r = if r < st.nr then (setRs (R.zip ((postRs 0 sg.m sg.rs.length 0 sg.ps).map (RK.im st.nx (callF R st.nr)))) (st1.bind sg.r)).rk r else ((resRs 0 sg.m 0 sg.k0 sg.rs).map (RK.im st.nx (callF R st.nr))).getD (r - st.nr) .dead := by
      have hnr2 : (setRs (R.zip ((postRs 0 sg.m sg.rs.length 0 sg.ps).map (RK.im st.nx (callF R st.nr)))) (st1.bind sg.r)).roots.length = st.nr := n1.trans hnr1
      unfold callEnd St.put St.rk
      simp only [List.getD]
      split
      · rename_i h; rw [List.getElem?_append_left (by omega)]
      · rename_i h; rw [List.getElem?_append_right (by omega), hnr2]
    have imrow : ∀ (j : Nat) (k : RK), (postSt sg).rk j = k → k.plain = true → r = (callF R st.nr) j → RK.rows (ρ ++ [⟨sg.r, yv⟩]) ((callF R st.nr) j) (k.im ρ.length (callF R st.nr)) p = some row → RowRep X.P w' gF (r, p) row := fun j k hk hp hj hrows => by
      rw [hj]
      exact im_rows hhdF hp (fun p row hpr => hgrow (j, p) row (by show RK.rows _ j ((postSt sg).rk j) p = _; rw [hk]; exact hpr)) (fun b p hb => hownF b _ hb) hrows
    have hpl0 : (postRs 0 sg.m sg.rs.length 0 sg.ps).length = R.length := hpl
    rw [hrk] at hl
    split at hl
    · rename_i hlt2
      cases hc : R.contains r with
      | true =>
        obtain ⟨j, hj⟩ := posOf_some hc
        have hjr := posOf_get hj
        have hjl : j < R.length := (List.getElem?_eq_some_iff.1 hjr).1
        have hkj : (postRs 0 sg.m sg.rs.length 0 sg.ps)[j]? = some ((postRs 0 sg.m sg.rs.length 0 sg.ps)[j]'(by omega)) := List.getElem?_eq_getElem (by omega)
        generalize (postRs 0 sg.m sg.rs.length 0 sg.ps)[j]'(by omega) = k at hkj
        have hkj' : ((postRs 0 sg.m sg.rs.length 0 sg.ps).map (RK.im st.nx (callF R st.nr)))[j]? = some (k.im ρ.length (callF R st.nr)) := by rw [hnx, List.getElem?_map, hkj]; rfl
        right
        rcases setRs_get R _ (st1.bind sg.r) hnd j r _ hjr hkj' with e | e
        · rw [e] at hl
          have hfj : r = (callF R st.nr) j := by simp only [callF, if_pos hjl]; rw [List.getD, hjr]; rfl
          refine imrow j k ?_ (List.all_eq_true.1 (postRs_plain sg.ps _ _ hf2) k (List.mem_of_getElem? hkj)) hfj (by rw [← hfj]; exact hl)
          unfold St.rk postSt
          simp only [List.getD]
          rw [List.getElem?_append_left (by omega), hkj]; rfl
        · rw [e, rows_dead] at hl; cases hl
      | false =>
        left
        rw [setRs_other _ _ r (fun k hk => by
          have : r ∈ R := (List.of_mem_zip hk).1
          have h3 : R.contains r = true := by simpa using this
          rw [h3] at hc; cases hc)] at hl
        have hpr : Nat.blt r st.nr = true ∧ R.contains r = false := ⟨by simpa using hlt2, hc⟩
        have hng : goneR (R.zip sg.flags) r = false := by
          cases hg : goneR (R.zip sg.flags) r with
          | false => rfl
          | true =>
            exfalso
            unfold goneR at hg
            rw [List.any_eq_true] at hg
            obtain ⟨y, hy1, hy2⟩ := hg
            simp only [Bool.and_eq_true] at hy2
            have e0 := Nat.eq_of_beq_eq_true hy2.1
            have : r ∈ R := by rw [← e0]; exact (List.of_mem_zip (a := y.1) (b := y.2) hy1).1
            have h3 : R.contains r = true := by simpa using this
            rw [h3] at hc; cases hc
        have hph : (Nat.blt r st.nr && !goneR (R.zip sg.flags) r) = true ∧ (Nat.blt r st.nr && !R.contains r) = true := by rw [hpr.1, hpr.2, hng]; exact ⟨rfl, rfl⟩
        refine ⟨hl, ⟨hph.1, .inr hph.2⟩, RK.okR_ok2 _ (all_rk hokR.2 rfl r) hph p row hl, fun b hb => ?_⟩
        have hn := notR b (r, p) hb hc
        have hlt3 := (hok.own b _ hb).2.1
        exact ⟨by simp only [gF]; rw [if_pos ⟨hlt3, hn⟩]; exact hb, hkept b hlt3 hn⟩
    · rename_i hge
      right
      cases hj : (resRs 0 sg.m 0 sg.k0 sg.rs)[r - st.nr]? with
      | none =>
        rw [hnx, List.getD, List.getElem?_map, hj] at hl
        simp only [Option.map_none, Option.getD_none, rows_dead] at hl; cases hl
      | some k =>
        rw [hnx, List.getD, List.getElem?_map, hj] at hl
        simp only [Option.map_some, Option.getD_some] at hl
        have hfj : r = (callF R st.nr) (R.length + (r - st.nr)) := by simp only [callF]; rw [if_neg (by omega)]; omega
        refine imrow (R.length + (r - st.nr)) k ?_ (List.all_eq_true.1 (resRs_plain sg.rs 0 sg.k0 hf1) k (List.mem_of_getElem? hj)) hfj (by rw [← hfj]; exact hl)
        unfold St.rk postSt
        simp only [List.getD]
        rw [List.getElem?_append_right (by omega), show R.length + (r - st.nr) - (postRs 0 sg.m sg.rs.length 0 sg.ps).length = r - st.nr from by omega, hj]; rfl
  · have hr1 : r ∈ st.fix := by
      have : r ∈ (callEnd st st1 d sg R).fix := hr0
      unfold callEnd at this
      simp only [St.put, n4] at this
      have h2 : r ∈ st1.fix := this
      rw [hts.2] at h2; exact h2
    have hp := List.all_eq_true.1 hfix r hr1
    rw [hh (r, []) ⟨hp, .inl rfl⟩]
    exact hi.fixd r hr1
  · rw [hR] at hR2
    cases hR2
    refine ⟨fun r p hr hc => ?_, fun j r hj hfl => ?_, fun r hr hg => hh (r, []) ⟨by simp only [Bool.and_eq_true, Nat.blt_eq, Bool.not_eq_true']; exact ⟨hr, hg⟩, .inl rfl⟩, fun b hb => ⟨hb, hkept b (hok.S b hb).1 (notS b hb)⟩, _, rfl⟩
    · simp only [gF]
      rw [posOf_none hc, if_neg (by omega)]
    · have hpj := get_posOf hnd hj
      show gF.hdr (r, []) = g.hdr (r, [])
      simp only [gF]
      rw [hpj]
      show g'.hdr (j, []) = g.hdr (r, [])
      rw [hghd j hfl]
      exact lend_hdr hj []

/-! ### Boxes' cells, known better or worse -/
theorem mapB_rk (f : SC → SC) (r : Nat) : (st.mapB f).rk r = (st.rk r).mapB f := by
  unfold St.rk St.mapB
  simp only [List.getD, List.getElem?_map]
  cases st.roots[r]? <;> rfl
theorem TInv.mapB {D : Nat → Prop} {f : SC → SC} (hi : TInv X D st ρ a w g) (hf : ∀ (c : SC) (v : Value), CRep w g (c.enc ρ) v → CRep w g ((f c).enc ρ) v) : TInv X D (st.mapB f) ρ a w g := by
  refine ⟨hi.typ, ⟨hi.inv.size, hi.inv.nodef, hi.inv.ok, hi.inv.slot, fun l row hl => ?_⟩, hi.fixd, hi.dirt⟩
  have hl : RK.rows ρ l.1 ((st.mapB f).rk l.1) l.2 = some row := hl
  rw [mapB_rk] at hl
  cases hr : st.rk l.1 with
  | box e cells =>
    rw [hr] at hl
    obtain ⟨l1, l2⟩ := l
    simp only at hr
    cases l2 with
    | cons q p => simp [RK.mapB, RK.rows] at hl
    | nil =>
      simp only [RK.mapB, RK.rows, Option.some.injEq] at hl
      subst hl
      have h0 := hi.inv.row (l1, []) (.row true false e [encL ρ cells]) (by show RK.rows ρ l1 (st.rk l1) [] = _; rw [hr]; rfl)
      have hlen : (encL ρ (cells.map f)).length = (encL ρ cells).length := by rw [encL_map, encL_map]; simp
      cases h0 with
      | full _ _ _ _ b base n cap cs f' h =>
        refine .full _ _ _ _ b base n cap cs f' ⟨h.hd, h.own, h.heap, h.len, h.hcap, h.hmax, h.fit, h.pos, fun i c q => ?_, fun i c k x q1 q2 => ?_, fun i c k x q1 q2 => ?_, fun e0 => by cases e0⟩
        · cases i with
          | zero => cases q; rw [hlen]; exact h.size 0 _ rfl
          | succ i => cases q
        · cases i with
          | zero =>
            cases q1
            obtain ⟨x0, hx0⟩ := get_other (l := encL ρ cells) (by rw [hlen]; exact Nat.le_refl _) q2
            exact h.cell 0 _ k x0 rfl hx0
          | succ i => cases q1
        · cases i with
          | zero =>
            cases q1
            rw [encL_map, List.getElem?_map, List.getElem?_map, Option.map_map, Option.map_eq_some_iff] at q2
            obtain ⟨c0, hc0, rfl⟩ := q2
            exact hf c0 _ (h.rep 0 _ k (c0.enc ρ) rfl (by rw [encL_map, List.getElem?_map, hc0]; rfl))
          | succ i => cases q1
  | _ =>
    rw [hr] at hl
    exact hi.inv.row l row (by show RK.rows ρ l.1 (st.rk l.1) l.2 = _; rw [hr]; exact hl)
theorem TInv.untk {D : Nat → Prop} (hi : TInv X D st ρ a w g) : TInv X D (st.mapB SC.untk) ρ a w g := hi.mapB fun c v h => by
  cases c with
  | tk r x => simp only [SC.enc] at h; simp only [SC.untk, SC.enc]; exact both_l h
  | _ => exact h
theorem findK_mem : ∀ {K : List (Nat × At)} {r : Nat} {x : At}, findK K r = some x → (r, x) ∈ K
  | [], _, _, h => by cases h
  | p :: K, r, x, h => by
    simp only [findK] at h
    split at h
    · rename_i e
      cases h
      subst e
      exact List.mem_cons_self
    · exact List.mem_cons_of_mem _ (findK_mem h)
theorem tkOf_mem {c : SC} {r : Nat} {x : At} (h : (r, x) ∈ tkOf c) : c = .tk r x := by
  cases c with
  | tk r' x' => simp only [tkOf, List.mem_singleton, Prod.mk.injEq] at h; rw [h.1, h.2]
  | _ => simp [tkOf] at h
/-- What a token stands for. -/
theorem tk_fact {r : Nat} {x : At} {v : Value} (h : CRep w g ((SC.tk r x).enc ρ) v) : CRep w g (.ro none ((x.get ρ).els none)) (g.hdr (r, [])) := by
  simp only [SC.enc] at h
  rw [← hd_eq (both_l h)]; exact both_r h
theorem callK_fact (hi : TInv X NoD st ρ a w g) {R : List Nat} {vs : List SV} {argv : Array Value} (hargs : ∀ (i : Nat) (sv : SV), vs[i]? = some sv → PRep X.P w g (sv.enc ρ) (argv.getD i undef)) {r : Nat} {x : At} (h : (r, x) ∈ callK st R vs) :
    CRep w g (.ro none ((x.get ρ).els none)) (g.hdr (r, [])) := by
  unfold callK at h
  rcases List.mem_append.1 h with h | h
  · obtain ⟨sv, h1, h2⟩ := List.mem_flatMap.1 h
    cases sv with
    | c c =>
      have := tkOf_mem h2
      subst this
      obtain ⟨i, hi1, hi2⟩ := List.getElem_of_mem h1
      have h5 : PRep X.P w g ((SV.c (.tk r x)).enc ρ) (argv.getD i undef) := hargs i _ (by rw [List.getElem?_eq_getElem hi1, hi2])
      exact tk_fact (r := r) (x := x) h5
    | _ => simp [tkSV] at h2
  · obtain ⟨r0, h1, h2⟩ := List.mem_flatMap.1 h
    cases hr : st.rk r0 with
    | box e cells =>
      rw [hr] at h2
      obtain ⟨c, h3, h4⟩ := List.mem_flatMap.1 h2
      have := tkOf_mem h4
      subst this
      obtain ⟨k, hk1, hk2⟩ := List.getElem_of_mem h3
      obtain ⟨b, base, f, _, _, q3⟩ := box_cells hi hr
      exact tk_fact (q3 k _ (by rw [encL_map, List.getElem?_map, List.getElem?_eq_getElem hk1, hk2]; rfl)).2
    | _ => rw [hr] at h2; simp [tkRK] at h2
theorem callV_ok (hS : Specs X.P ss Γ) {sg : Sig} (hmem : sg ∈ ss) (hN : d < X.N) {vs : List SV} (h : callV st d sg vs = .ok s) (hi : TInv X NoD st ρ a w g) (hw : st.wf = true) (hk : st.rok = true) {ρ' : Env} (hev : evalB Γ (s.es.map (·.1)) ρ = some ρ')
    {argv : Array Value} (hsz : argv.size = vs.length) (hargs : ∀ (i : Nat) (sv : SV), vs[i]? = some sv → PRep X.P w g (sv.enc ρ) (argv.getD i undef)) :
    Calls X.P sg.f argv w (fun e w' => ∃ v, e = .returned v ∧ (sg.flags.isEmpty = true → RelD NoD w w') ∧ ∃ g', TInv X NoD s.st ρ' (a.put (some d) v) w' g' ∧
      ∀ R, callRoots st sg.ps vs = .ok R → (∀ r p, r < st.nr → R.contains r = false → g'.hdr (r, p) = g.hdr (r, p)) ∧ ∀ (j r : Nat), R[j]? = some r → sg.flags[j]? = some true → g'.hdr (r, []) = g.hdr (r, [])) := by
  unfold callV at h
  obtain ⟨s0, hs0, h⟩ := ok_bind h
  obtain ⟨R, hR, h⟩ := ok_bind h
  simp only at h
  split at h
  · cases h
    refine Calls.mono (callV0_ok hS hmem hN hs0 hi hw hk hev hsz hargs) fun e w' ⟨v, h1, h2, g', h3, h4⟩ => ⟨v, h1, h2, g', h3, fun R hR => ?_⟩
    obtain ⟨k1, k2, _⟩ := h4 R hR
    exact ⟨k1, k2⟩
  · by_cases hc : ((callK st R vs).all (fun p => Nat.blt p.1 st.nr && !goneR (R.zip sg.flags) p.1 && p.2.lt st.ts.length)) = true
    case neg => rw [if_pos hc] at h; cases h
    rw [if_neg (fun hh => hh hc)] at h
    cases h
    refine Calls.mono (callV0_ok hS hmem hN hs0 hi hw hk hev hsz hargs) fun e w' ⟨v, h1, h2, g', h3, h4⟩ => ⟨v, h1, h2, g', ?_, fun R hR => ?_⟩
    · obtain ⟨_, _, k3, k4, v', rfl⟩ := h4 R hR
      refine h3.mapB fun c u hu => ?_
      cases c with
      | h r =>
        simp only [SC.retk]
        cases hf : findK (callK st R vs) r with
        | none => exact hu
        | some x =>
          have hm := findK_mem hf
          have hcm := List.all_eq_true.1 hc _ hm
          simp only [Bool.and_eq_true, Nat.blt_eq, Bool.not_eq_true'] at hcm
          have hfact := callK_fact hi hargs hm
          simp only [SC.enc] at hu
          have hu := hd_eq hu
          simp only [SC.enc]
          refine .both _ _ _ (.hd _ _ hu) ?_
          rw [hu, k3 r hcm.1.1 hcm.1.2, At.get_app (by rw [hi.len]; exact hcm.2)]
          refine hfact.keep (pl := fun _ => False) (pr := fun rg => rg = none) (fun _ h => h.elim) (fun rg hrg b hb => ?_) (els_ok (prr := fun rg => rg = none) rfl _)
          subst hrg
          exact k4 b hb
      | _ => exact hu
    · obtain ⟨k1, k2, _⟩ := h4 R hR
      exact ⟨k1, k2⟩
end
end Go.Pu
/-
  Own work. Values leaf by leaf; rows that change their places.
-/
namespace Go.Pu
open Go Go.RowKit
set_option linter.unusedVariables false
set_option linter.unusedSectionVars false

/-! ### Leaf by leaf -/
def leafs : (t : Ty) → t.den → List V
  | .int k, x => [⟨.int k, x⟩]
  | .bool, x => [⟨.bool, x⟩]
  | .unit, _ => []
  | .pr a b, x => leafs a x.1 ++ leafs b x.2
  | .sl e a, x => [⟨.sl e a, x⟩]
  | .mp, x => [⟨.mp, x⟩]
theorem leafs_length : ∀ (t : Ty) (x : t.den), (leafs t x).length = t.n
  | .int _, _ => rfl
  | .bool, _ => rfl
  | .unit, _ => rfl
  | .pr a b, x => by simp only [leafs, List.length_append, leafs_length a x.1, leafs_length b x.2, Ty.n]
  | .sl _ _, _ => rfl
  | .mp, _ => rfl
theorem leafs_ty : ∀ (t : Ty) (x : t.den), (leafs t x).map V.t = t.leaves
  | .int _, _ => rfl
  | .bool, _ => rfl
  | .unit, _ => rfl
  | .pr a b, x => by simp only [leafs, List.map_append, leafs_ty a x.1, leafs_ty b x.2, Ty.leaves]
  | .sl _ _, _ => rfl
  | .mp, _ => rfl
theorem one_map {vs : List V} {u : Ty} (h : vs.map V.t = [u]) : ∃ v, vs = [v] ∧ v.t = u := by
  cases vs with
  | nil => cases h
  | cons v vs =>
    simp only [List.map_cons, List.cons.injEq, List.map_eq_nil_iff] at h
    exact ⟨v, by rw [h.2], h.1⟩
theorem leafs_mk : ∀ (t : Ty) (vs : List V), vs.map V.t = t.leaves → leafs t (mkv t vs).1 = vs
  | .pr a b, vs, h => by
    have hl : vs.length = (Ty.pr a b).n := by rw [← leaves_length, ← h, List.length_map]
    rw [mkv_pr a b vs hl]
    have la := leaves_length a
    simp only [Ty.leaves] at h
    simp only [leafs]
    rw [leafs_mk a (vs.take a.n) (by rw [← la, List.map_take, h, List.take_left]), leafs_mk b (vs.drop a.n) (by rw [← la, List.map_drop, h, List.drop_left])]
    exact List.take_append_drop _ _
  | .unit, vs, h => by simp only [Ty.leaves, List.map_eq_nil_iff] at h; subst h; rfl
  | .int k, vs, h => by
    obtain ⟨v, e0, h2⟩ := one_map h
    subst e0
    have := mkv_leaf (u := .int k) v rfl h2
    simp only [leafs, this]
  | .bool, vs, h => by
    obtain ⟨v, e0, h2⟩ := one_map h
    subst e0
    have := mkv_leaf (u := .bool) v rfl h2
    simp only [leafs, this]
  | .sl e a, vs, h => by
    obtain ⟨v, e0, h2⟩ := one_map h
    subst e0
    have := mkv_leaf (u := .sl e a) v rfl h2
    simp only [leafs, this]
  | .mp, vs, h => by
    obtain ⟨v, e0, h2⟩ := one_map h
    subst e0
    have := mkv_leaf (u := .mp) v rfl h2
    simp only [leafs, this]
theorem old_leafs (n : Nat) {ρ : Env} : ∀ (t : Ty) (p : List Bool) (x : t.den), Ref.get ρ ⟨n, p⟩ = ⟨t, x⟩ → (pathsOf p t).map (fun q => (At.r ⟨n, q⟩).get ρ) = leafs t x
  | .int _, p, x, h => by simp only [pathsOf, List.map_cons, List.map_nil, At.get, h, leafs]
  | .bool, p, x, h => by simp only [pathsOf, List.map_cons, List.map_nil, At.get, h, leafs]
  | .unit, p, x, h => rfl
  | .pr a b, p, x, h => by
    have ha : Ref.get ρ ⟨n, p ++ [false]⟩ = ⟨a, x.1⟩ := by simp only [Ref.get, proj_app] at h ⊢; rw [h]; rfl
    have hb : Ref.get ρ ⟨n, p ++ [true]⟩ = ⟨b, x.2⟩ := by simp only [Ref.get, proj_app] at h ⊢; rw [h]; rfl
    simp only [pathsOf, List.map_append, old_leafs n a _ x.1 ha, old_leafs n b _ x.2 hb, leafs]
  | .sl _ _, p, x, h => by simp only [pathsOf, List.map_cons, List.map_nil, At.get, h, leafs]
  | .mp, p, x, h => by simp only [pathsOf, List.map_cons, List.map_nil, At.get, h, leafs]
/-- What a leaf's cell holds; the row behind a leaf. -/
def leafC (r i kk : Nat) : V → C
  | ⟨.int k, z⟩ => .int k z
  | ⟨.bool, b⟩ => .bool b
  | ⟨.sl _ _, _⟩ => .hd (r, [(i, kk)])
  | _ => .gone
def leafRow : V → Option Row
  | ⟨.sl e a, xs⟩ => some (.row false false e (List.map (enc none a) xs))
  | _ => none
theorem one_get {α : Type} {x : α} {j : Nat} : ([x] : List α)[j]? = if j = 0 then some x else none := by cases j <;> simp
theorem encE_leaf (r i : Nat) : ∀ (t : Ty) (k0 : Nat) (x : t.den) (j : Nat), (encE r i k0 t x)[j]? = ((leafs t x)[j]?).map (leafC r i (k0 + j))
  | .int _, k0, x, j => by simp only [encE, leafs, one_get]; split <;> simp [leafC]
  | .bool, k0, x, j => by simp only [encE, leafs, one_get]; split <;> simp [leafC]
  | .unit, k0, x, j => by simp [encE, leafs]
  | .pr a b, k0, x, j => by
    simp only [encE, leafs, List.getElem?_append, encE_length, leafs_length]
    split
    · exact encE_leaf r i a k0 x.1 j
    · rename_i h
      rw [encE_leaf r i b (k0 + a.n) x.2 (j - a.n), show k0 + a.n + (j - a.n) = k0 + j from by omega]
  | .sl _ _, k0, x, j => by simp only [encE, leafs, one_get]; split <;> simp_all [leafC]
  | .mp, k0, x, j => by simp only [encE, leafs, one_get]; split <;> simp [leafC]
theorem subRow_leaf : ∀ (t : Ty) (k0 : Nat) (x : t.den) (j : Nat), subRow k0 t x (k0 + j) = ((leafs t x)[j]?).bind leafRow
  | .int _, k0, x, j => by simp only [subRow, leafs, one_get]; split <;> simp [leafRow]
  | .bool, k0, x, j => by simp only [subRow, leafs, one_get]; split <;> simp [leafRow]
  | .unit, k0, x, j => by simp [subRow, leafs]
  | .pr a b, k0, x, j => by
    simp only [subRow, leafs, List.getElem?_append, leafs_length]
    by_cases h : j < a.n
    · have hb : Nat.blt (k0 + j) (k0 + a.n) = true := by simp; omega
      rw [hb, if_pos h, cond_true]
      exact subRow_leaf a k0 x.1 j
    · have hb : Nat.blt (k0 + j) (k0 + a.n) = false := by
        cases hh : Nat.blt (k0 + j) (k0 + a.n) with
        | false => rfl
        | true => simp at hh; omega
      rw [hb, if_neg h, cond_false]
      have := subRow_leaf b (k0 + a.n) x.2 (j - a.n)
      rwa [show k0 + a.n + (j - a.n) = k0 + j from by omega] at this
  | .sl _ _, k0, x, j => by
    simp only [subRow, leafs, one_get]
    by_cases h : j = 0
    · subst h; simp [leafRow]
    · have hb : Nat.beq (k0 + j) k0 = false := beqN (by omega)
      rw [hb, if_neg h]; rfl
  | .mp, k0, x, j => by simp only [subRow, leafs, one_get]; split <;> simp [leafRow]
theorem flat1_leaf : ∀ (t : Ty) (x : t.den) (j : Nat) (V : V), t.flat1 = true → (leafs t x)[j]? = some V → (∃ k z, V = ⟨.int k, z⟩) ∨ (∃ b, V = ⟨.bool, b⟩) ∨ ∃ e a xs, V = ⟨.sl e a, xs⟩ ∧ a.flat = true
  | .int k, x, j, V, hf, h => by
    simp only [leafs, one_get] at h
    split at h <;> cases h
    exact .inl ⟨k, x, rfl⟩
  | .bool, x, j, V, hf, h => by
    simp only [leafs, one_get] at h
    split at h <;> cases h
    exact .inr (.inl ⟨x, rfl⟩)
  | .unit, x, j, V, hf, h => by simp [leafs] at h
  | .pr a b, x, j, V, hf, h => by
    simp only [Ty.flat1, Bool.and_eq_true] at hf
    simp only [leafs, List.getElem?_append] at h
    split at h
    · exact flat1_leaf a x.1 j V hf.1 h
    · exact flat1_leaf b x.2 _ V hf.2 h
  | .sl e a, x, j, V, hf, h => by
    simp only [leafs, one_get] at h
    split at h <;> cases h
    exact .inr (.inr ⟨e, a, x, rfl, hf⟩)
  | .mp, x, j, V, hf, h => by simp [Ty.flat1] at hf
theorem leafRow_flat {V : V} {row : Row} {ml : Loc → Loc → Prop} {mr : Rg → Rg → Prop} (h : leafRow V = some row) (hf : ∀ e a xs, V = ⟨.sl e a, xs⟩ → a.flat = true) : Row.Rel ml mr row row := by
  unfold leafRow at h
  split at h
  · rename_i e a xs
    cases h
    have hfa := hf e a xs rfl
    refine .row _ _ _ _ _ _ (fun h => h) rfl (fun i cs cs' q1 q2 => (by rw [q1] at q2; cases q2; rfl)) (fun i cs cs' k y y' q1 q2 q3 q4 => ?_)
    rw [q1] at q2; cases q2
    rw [List.getElem?_map, Option.map_eq_some_iff] at q1
    obtain ⟨z, hz, rfl⟩ := q1
    exact enc_rel a (.inl hfa) z k y y' q3 q4
  · cases h

/-! ### Surgery -/
section
variable {X : Ctx} {D : Nat → Prop} {Γ : List FE} {st : St} {ρ : Env} {a : Act} {w w' : World} {g g' : G}
theorem TInv.surg (h : TInv X D st ρ a w g) (ph pr : Nat → Bool) {roots' : List RK} {dirty' : List (Nat × Bool)} (hs : st.slots.all (SV.okR ph pr) = true)
    (hh : ∀ l, plOf2 ph pr l → g'.hdr l = g.hdr l) (hr : ∀ rg, prOf pr rg → ∀ b, g.reg rg b → g'.reg rg b ∧ w'.heap[b]? = w.heap[b]?) (hok : GOK X g' w')
    (hrow : ∀ r p row, (roots'.getD r .dead).rows ρ r p = some row → (roots'.getD r .dead = st.rk r ∧ (st.rk r).okR ph pr = true ∧ ph r = true ∧ pr r = true ∧ ∀ b p, g.own b = some (r, p) → g'.own b = some (r, p) ∧ w'.heap[b]? = w.heap[b]?) ∨ RowRep X.P w' g' (r, p) row)
    (hfix : ∀ r, r ∈ st.fix → g'.hdr (r, []) = g.hdr (r, []))
    (hd : (∀ b, D b → ∃ p q, p ∈ dirty' ∧ g'.own b = some (p.1, q) ∧ (p.2 = true ↔ q ≠ [])) ∧ ∀ r b q, dirty' = [(r, true)] → g'.own b = some (r, q) → q ≠ [] → D b) :
    TInv X D { st with roots := roots', dirty := dirty' } ρ a w' g' := by
  refine ⟨h.typ, h.inv.next (plOf2 ph pr) (prOf pr) hh hr hok rfl rfl (fun s => .inr (.inl ⟨rfl, rfl, SV.okR_ok2 _ (all_slot hs rfl s)⟩)) (fun l row hl => ?_), fun r hr => (hfix r hr).trans (h.fixd r hr), hd⟩
  obtain ⟨r, p⟩ := l
  rcases hrow r p row hl with ⟨e, h1, h2, h3, h4⟩ | h1
  · left
    have hl : RK.rows ρ r (roots'.getD r .dead) p = some row := hl
    rw [e] at hl
    exact ⟨hl, ⟨h2, .inr h3⟩, RK.okR_ok2 _ h1 ⟨h2, h3⟩ p row hl, fun b hb => h4 b p hb⟩
  · exact .inr h1
/-- Regions spoken of no more. -/
theorem TInv.killOnly (h : TInv X D st ρ a w g) (hk : st.rok = true) (r : Nat) : TInv X D ((st.kill false r).setR r (st.rk r)) ρ a w g :=
  h.mut hk (all := false) (r := r) ⟨fun _ _ _ _ => rfl, fun _ _ _ b hb => ⟨hb, rfl⟩⟩ h.inv.ok (st.rk r) (fun p row hp => h.inv.row (r, p) row hp) (fun e => by cases e) (fun b l _ hb => ⟨hb, rfl⟩) st.dirty h.dirt
theorem TInv.killDead (h : TInv X D st ρ a w g) (hk : st.rok = true) {all : Bool} (r : Nat) (hfix : all = true → st.fix.contains r = false) : TInv X D ((st.kill all r).setR r .dead) ρ a w g :=
  h.mut hk (all := all) (r := r) ⟨fun _ _ _ _ => rfl, fun _ _ _ b hb => ⟨hb, rfl⟩⟩ h.inv.ok .dead (fun p row hp => by rw [rows_dead] at hp; cases hp) hfix (fun b l _ hb => ⟨hb, rfl⟩) st.dirty h.dirt
theorem killR_ok' : ∀ (l : List (Nat × Bool)) (st : St), TInv X D st ρ a w g → TInv X D (killR l st) ρ a w g
  | [], st, h => h
  | (r, io) :: l, st, h => by
    simp only [killR]
    split
    · rename_i hc
      simp only [Bool.and_eq_true, Bool.or_eq_true, Bool.not_eq_true'] at hc
      refine killR_ok' l _ (h.killDead hc.1 r fun e => ?_)
      rcases hc.2 with hc | hc
      · rw [hc] at e; cases e
      · exact hc
    · exact killR_ok' l st h
def srcHdr (g : G) : Option Loc → Value
  | some l => g.hdr l
  | none => .slice none 0 0
/-- A cell's value serves a leaf. -/
def Fit (g : G) (s : Option Loc) (V : V) (u : Value) : Prop := (V.t.isSl = true → u = srcHdr g s) ∧ (V.t.isSl = false → ∀ w g' r i k, CRep w g' (leafC r i k V) u)
theorem setR_getD {st : St} {R0 : Nat} {k : RK} (r : Nat) : ((st.roots.set R0 k).getD r .dead = st.rk r ∧ r ≠ R0) ∨ (r = R0 ∧ (st.roots.set R0 k).getD r .dead = k) ∨ (st.roots.set R0 k).getD r .dead = .dead := by
  by_cases e : r = R0
  · subst e
    right
    rcases setR_rk st r k with h | h
    · exact .inl ⟨rfl, h⟩
    · exact .inr h
  · exact .inl ⟨setR_rk_ne e, e⟩
open Classical in
/-- A root's inner rows come together from other places. -/
theorem TInv.regroup (hi : TInv X D st ρ a w g) {ph pr : Nat → Bool} {R0 : Nat} (src : Nat → Nat → Option Loc) {e : TypeId} {b : Ty} {v : At} {nl : Bool} {xs : List b.den} {els : List (List C)}
    (hv : (v.get ρ).as (.sl e b) = xs) (hf : b.flat1 = true) (hs : st.slots.all (SV.okR ph pr) = true)
    (hk : ∀ r, r ≠ R0 → st.rk r ≠ .dead → (st.rk r).okR ph pr = true ∧ ph r = true ∧ pr r = true)
    (hpr : ∀ r, pr r = true → r ≠ R0 ∧ ∀ i j p, src i j ≠ some (r, p))
    (hinj : ∀ i j i' j' l, src i j = some l → src i' j' = some l → (i, j) = (i', j')) (hsrc : ∀ i j, src i j ≠ some (R0, []))
    (hd1 : st.dirty = [] ∨ st.dirty.contains (R0, true) = true) (hd2 : ∀ r, st.dirty ≠ [(r, true)])
    (hrow : RowRep X.P w g (R0, []) (.row false nl e els)) (hl : els.length = xs.length)
    (hel : ∀ i c y, els[i]? = some c → xs[i]? = some y → c.length = b.n ∧ ∀ j q V u, c[j]? = some q → (leafs b y)[j]? = some V → CRep w g q u → Fit g (src i j) V u)
    (hsub : ∀ i y j V row, xs[i]? = some y → (leafs b y)[j]? = some V → leafRow V = some row → match src i j with | some l => RowRep X.P w g l row | none => ∃ e', row = .row false false e' []) :
    ∃ g', TInv X D (st.setR R0 (.list e b v nl none)) ρ a w g' ∧ (∀ r, g'.hdr (r, []) = g.hdr (r, [])) ∧ (∀ l, l.1 ≠ R0 → g'.hdr l = g.hdr l) ∧ g'.S = g.S := by
  let g' : G := { S := g.S, own := fun b0 => match g.own b0 with | none => none | some l => if h : ∃ ij : Nat × Nat, src ij.1 ij.2 = some l then some (R0, [h.choose]) else some l,
                  hdr := fun l => if l.1 = R0 then (match l.2 with | [(i, j)] => srcHdr g (src i j) | _ => g.hdr l) else g.hdr l }
  have hok := hi.inv.ok
  have ho1 : ∀ b0 i j l, g.own b0 = some l → src i j = some l → g'.own b0 = some (R0, [(i, j)]) := fun b0 i j l h1 h2 => by
    have hx : ∃ ij : Nat × Nat, src ij.1 ij.2 = some l := ⟨(i, j), h2⟩
    simp only [g', h1]
    rw [dif_pos hx, hinj _ _ _ _ _ h2 hx.choose_spec]
  have ho2 : ∀ b0 l, g.own b0 = some l → (∀ i j, src i j ≠ some l) → g'.own b0 = some l := fun b0 l h1 h2 => by
    simp only [g', h1]
    rw [dif_neg]
    rintro ⟨⟨i, j⟩, hx⟩
    exact h2 i j hx
  have ho3 : ∀ b0 l, g'.own b0 = some l → ∃ l0, g.own b0 = some l0 ∧ ((∃ i j, src i j = some l0 ∧ l = (R0, [(i, j)])) ∨ ((∀ i j, src i j ≠ some l0) ∧ l = l0)) := fun b0 l h => by
    simp only [g'] at h
    split at h
    · cases h
    · rename_i l0 h0
      refine ⟨l0, h0, ?_⟩
      split at h
      · rename_i hx
        cases h
        exact .inl ⟨_, _, hx.choose_spec, rfl⟩
      · rename_i hx
        cases h
        exact .inr ⟨fun i j hh => hx ⟨(i, j), hh⟩, rfl⟩
  have hh0 : ∀ r, g'.hdr (r, []) = g.hdr (r, []) := fun r => by simp only [g']; split <;> rfl
  have hh1 : ∀ l, l.1 ≠ R0 → g'.hdr l = g.hdr l := fun l h => by simp only [g']; rw [if_neg h]
  have hh2 : ∀ i j, g'.hdr (R0, [(i, j)]) = srcHdr g (src i j) := fun i j => by simp only [g', if_true]
  refine ⟨g', ?_, hh0, hh1, rfl⟩
  have hst : st.setR R0 (.list e b v nl none) = { st with roots := st.roots.set R0 (.list e b v nl none), dirty := st.dirty } := rfl
  rw [hst]
  refine hi.surg ph pr hs (fun l hpl => ?_) (fun rg hrg b0 hb0 => ?_) ⟨hok.chg, hok.base, hok.S, fun b0 l h => ?_⟩ (fun r p row hrw => ?_) (fun r _ => hh0 r) ⟨fun b0 hb0 => ?_, fun r b0 q hq => absurd hq (hd2 r)⟩
  · obtain ⟨r, p⟩ := l
    rcases hpl.2 with h | h
    · simp only at h; subst h; exact hh0 r
    · exact hh1 _ (hpr r h).1
  · refine ⟨?_, rfl⟩
    cases rg with
    | none => exact hb0
    | some r =>
      rcases hb0 with hb0 | ⟨p, hb0⟩
      · exact .inl hb0
      · exact .inr ⟨p, ho2 _ _ hb0 fun i j => (hpr r (hrg r rfl)).2 i j p⟩
  · obtain ⟨l0, h0, _⟩ := ho3 b0 l h
    obtain ⟨h1, h2, h3⟩ := hok.own b0 l0 h0
    exact ⟨h1, h2, h3⟩
  · rcases setR_getD (st := st) (R0 := R0) (k := .list e b v nl none) r with ⟨e1, e2⟩ | ⟨e1, e2⟩ | e1
    · left
      have hne : st.rk r ≠ .dead := fun e0 => by rw [e1, e0, rows_dead] at hrw; cases hrw
      obtain ⟨h1, h2, h3⟩ := hk r e2 hne
      exact ⟨e1, h1, h2, h3, fun b0 p hb0 => ⟨ho2 _ _ hb0 fun i j => (hpr r h3).2 i j p, rfl⟩⟩
    · right
      subst e1
      rw [e2] at hrw
      cases p with
      | nil =>
        rw [rows_nil_list, hv] at hrw
        cases hrw
        have hx : ∀ (i : Nat) (c : List C), (xs.mapIdx fun i y => encIn none r i b y)[i]? = some c → ∃ y, xs[i]? = some y ∧ c = encE r i 0 b y := fun i c hc => by
          rw [List.getElem?_mapIdx, Option.map_eq_some_iff] at hc
          obtain ⟨y, hy, rfl⟩ := hc
          exact ⟨y, hy, rfl⟩
        have hlx : (xs.mapIdx fun i y => encIn none r i b y).length = els.length := by simp [hl]
        cases hrow with
        | nil _ _ hd =>
          have : xs = [] := List.eq_nil_of_length_eq_zero hl.symm
          subst this
          exact .nil _ _ ((hh0 r).trans hd)
        | zero _ A hd =>
          have : xs = [] := List.eq_nil_of_length_eq_zero hl.symm
          subst this
          exact .zero _ A ((hh0 r).trans hd)
        | full _ _ _ _ b0 base n cap cs f h =>
          have cell : ∀ (i : Nat) (c : List C) (k : Nat) (x : C), (xs.mapIdx fun i y => encIn none r i b y)[i]? = some c → c[k]? = some x → ∃ c0 q0 V, els[i]? = some c0 ∧ c0[k]? = some q0 ∧ x = leafC r i k V ∧ ((V.t.isSl = true → ∃ e' a' zs, V = ⟨.sl e' a', zs⟩) ∧ ∀ u, CRep w g q0 u → Fit g (src i k) V u) := fun i c k x h1 h2 => by
            obtain ⟨y, hy, rfl⟩ := hx i c h1
            have hi0 : i < els.length := by rw [hl]; exact (List.getElem?_eq_some_iff.1 hy).1
            have hc0 : els[i]? = some els[i] := List.getElem?_eq_getElem hi0
            obtain ⟨q1, q2⟩ := hel i _ y hc0 hy
            rw [encE_leaf, Nat.zero_add, Option.map_eq_some_iff] at h2
            obtain ⟨V, hV, rfl⟩ := h2
            have hk0 : k < els[i].length := by rw [q1, ← leafs_length b y]; exact (List.getElem?_eq_some_iff.1 hV).1
            have hq0 : els[i][k]? = some els[i][k] := List.getElem?_eq_getElem hk0
            refine ⟨_, _, V, hc0, hq0, rfl, fun hs => ?_, fun u hu => q2 k _ V u hq0 hV hu⟩
            rcases flat1_leaf b y k V hf hV with ⟨kd, z, rfl⟩ | ⟨bv, rfl⟩ | ⟨e', a', zs, rfl, _⟩
            · cases hs
            · cases hs
            · exact ⟨e', a', zs, rfl⟩
          refine .full _ _ _ _ b0 base n cap cs f ⟨(hh0 r).trans h.hd, ho2 _ _ h.own fun i j => hsrc i j, h.heap, by rw [hlx]; exact h.len, h.hcap, h.hmax, h.fit, h.pos, fun i c hc => ?_, fun i c k x h1 h2 => ?_, fun i c k x h1 h2 => ?_, fun e0 => ?_⟩
          · obtain ⟨y, hy, rfl⟩ := hx i c hc
            have hi0 : i < els.length := by rw [hl]; exact (List.getElem?_eq_some_iff.1 hy).1
            have hc0 : els[i]? = some els[i] := List.getElem?_eq_getElem hi0
            rw [encE_length, ← (hel i _ y hc0 hy).1]; exact h.size i _ hc0
          · obtain ⟨c0, q0, V, h3, h4, _⟩ := cell i c k x h1 h2
            exact h.cell i c0 k q0 h3 h4
          · obtain ⟨c0, q0, V, h3, h4, rfl, h5, h6⟩ := cell i c k x h1 h2
            have hfit := h6 _ (h.rep i c0 k q0 h3 h4)
            cases hsl : V.t.isSl with
            | false => exact hfit.2 hsl _ _ _ _ _
            | true =>
              obtain ⟨e', a', zs, rfl⟩ := h5 hsl
              have hu := hfit.1 hsl
              simp only [leafC]
              exact .hd _ _ (by rw [hh2]; exact hu)
          · intro e1
            rw [e1] at hlx
            exact h.nonil e0 (List.eq_nil_of_length_eq_zero hlx.symm)
      | cons q p =>
        obtain ⟨_, rfl, y, hy, hsr⟩ := rows_cons_list hrw
        obtain ⟨i, j⟩ := q
        have hy : xs[i]? = some y := by rw [← hv]; exact hy
        have hsr : subRow 0 b y j = some row := hsr
        have hsr2 := subRow_leaf b 0 y j
        rw [Nat.zero_add, hsr] at hsr2
        have hsr3 := hsr2.symm
        rw [Option.bind_eq_some_iff] at hsr3
        obtain ⟨V, hV, hVr⟩ := hsr3
        have hrel : Row.Rel (fun _ _ => False) (fun _ _ => False) row row := leafRow_flat hVr fun e a zs hz => by
          rcases flat1_leaf b y j V hf hV with ⟨kd, z, rfl⟩ | ⟨bv, rfl⟩ | ⟨e', a', zs', rfl, hfa⟩
          · cases hz
          · cases hz
          · cases hz; exact hfa
        have := hsub i y j V row hy hV hVr
        cases hsrc : src i j with
        | none =>
          rw [hsrc] at this
          obtain ⟨e', rfl⟩ := this
          exact .nil _ _ (by rw [hh2, hsrc]; rfl)
        | some l =>
          rw [hsrc] at this
          exact this.rel (fun _ _ h => h.elim) (fun _ _ h => h.elim) (by rw [hh2, hsrc]; rfl) (fun b0 hb0 => ⟨ho1 _ _ _ _ hb0 hsrc, rfl⟩) hrel
    · rw [e1, rows_dead] at hrw; cases hrw
  · obtain ⟨p, q, h1, h2, h3⟩ := hi.dirt.1 b0 hb0
    by_cases hx : ∃ ij : Nat × Nat, src ij.1 ij.2 = some (p.1, q)
    · obtain ⟨⟨i, j⟩, hx⟩ := hx
      rcases hd1 with hd1 | hd1
      · rw [hd1] at h1; cases h1
      · exact ⟨(R0, true), [(i, j)], by simpa using hd1, ho1 _ _ _ _ h2 hx, by simp⟩
    · exact ⟨p, q, h1, ho2 _ _ h2 (fun i j hh => hx ⟨(i, j), hh⟩), h3⟩
end
end Go.Pu
/-
  Own work. Append to an owned list, whatever its elements hold.
-/
namespace Go.Pu
open Go Go.RowKit
set_option linter.unusedVariables false
set_option linter.unusedSectionVars false

/-- A slice's header and its cells, looked at. -/
theorem ro_view {w : World} {g : G} {rg : Rg} {els : List (List C)} {s : Nat} {u : Value} (h : CRep w g (.ro rg els) u) (hs : ∀ (i : Nat) (c : List C), els[i]? = some c → c.length = s) :
    ∃ (A : Option Addr) (cap : Nat) (fn : Nat → Nat → Value), u = .slice A els.length cap ∧
      (els ≠ [] → ∃ ad, A = some ad ∧ ∀ i k, i < els.length → k < s → w.cell? (ad.add (i * s + k)) = some (fn i k)) ∧
      ∀ (i : Nat) (c : List C) (k : Nat) (q : C), els[i]? = some c → c[k]? = some q → CRep w g q (fn i k) := by
  cases h with
  | ro0 _ A cap => exact ⟨A, cap, fun _ _ => undef, rfl, fun h => absurd rfl h, fun i c k q h => by simp at h⟩
  | ro _ _ bb off n cap s' f hn hcap hm hS hs' hsz hcell hrep =>
    refine ⟨some ⟨bb, off, none⟩, cap, f, by rw [hn], fun hne => ⟨_, rfl, fun i k hi hk => ?_⟩, fun i c k q h1 h2 => hrep i c k q h1 h2⟩
    have hx : els[i]? = some (els[i]'hi) := List.getElem?_eq_getElem hi
    have hss : s' = s := by rw [← hs i _ hx, hsz i _ hx]
    subst hss
    rw [addr_add]
    exact hcell i _ k _ hx (List.getElem?_eq_getElem (by rw [hs i _ hx]; exact hk))
theorem slice_one {u : Value} {A : Option Addr} {n c : Nat} (h : u = .slice A n c) : u.oneCell' = true := by subst h; rfl
/-- The old row, as the machine's append sees it. -/
theorem row_old {P : Program} {w : World} {g : G} {r : Nat} {nl : Bool} {e : TypeId} {els : List (List C)} (h : RowRep P w g (r, []) (.row false nl e els)) (hs : ∀ (i : Nat) (c : List C), els[i]? = some c → c.length = szOf P e) :
    ∃ (fo : Nat → Nat → Value) (bOld : Option Nat), (∀ b0, bOld = some b0 → g.own b0 = some (r, [])) ∧ (g.hdr (r, []) = .slice none 0 0 → bOld = none) ∧
      ((els.length = 0 ∧ (g.hdr (r, []) = .slice none 0 0 ∨ ∃ a, g.hdr (r, []) = .slice (some a) 0 0)) ∨ ∃ b0 base cap cs, g.hdr (r, []) = .slice (some ⟨b0, base, none⟩) els.length cap ∧ bOld = some b0 ∧ w.heap[b0]? = some (.cells cs e (0, 0)) ∧ els.length ≤ cap ∧ cap ≤ maxLen ∧ base + cap * szOf P e = cs.size ∧
        (∀ i k, i < els.length → k < szOf P e → cs[base + (i * szOf P e + k)]? = some (fo i k))) ∧
      ∀ (i : Nat) (c : List C) (k : Nat) (q : C), els[i]? = some c → c[k]? = some q → CRep w g q (fo i k) := by
  cases h with
  | nil _ _ hd => exact ⟨fun _ _ => undef, none, (fun _ h => (by cases h)), fun _ => rfl, .inl ⟨rfl, .inl hd⟩, fun i c k q h => by simp at h⟩
  | zero _ A hd => exact ⟨fun _ _ => undef, none, (fun _ h => (by cases h)), fun _ => rfl, .inl ⟨rfl, .inr ⟨A, hd⟩⟩, fun i c k q h => by simp at h⟩
  | full _ _ _ _ b0 base n cap cs f hrf =>
    have hn := hrf.len
    subst hn
    have hd : g.hdr (r, []) = .slice (some ⟨b0, base, none⟩) els.length cap := hrf.hd
    refine ⟨f, some b0, fun _ h => (by cases h; exact hrf.own), fun h => (by rw [hd] at h; cases h), .inr ⟨b0, base, cap, cs, hd, rfl, hrf.heap, hrf.hcap, hrf.hmax, hrf.fit, fun i k hi hk => ?_⟩, fun i c k q h1 h2 => hrf.rep i c k q h1 h2⟩
    have hx : els[i]? = some (els[i]'hi) := List.getElem?_eq_getElem hi
    exact hrf.cell i _ k _ hx (List.getElem?_eq_getElem (by rw [hs i _ hx]; exact hk))
/-- What append leaves. -/
structure AppG (X : Ctx) (r : Nat) (w w' : World) (g g' : G) (v' : Value) : Prop where
  ok : GOK X g' w'
  S : g'.S = g.S
  top : g'.hdr (r, []) = v'
  hdr : ∀ l, l ≠ (r, []) → g'.hdr l = g.hdr l
  own : ∀ b l, g.own b = some l → g'.own b = some l
  back : ∀ b l, l ≠ (r, []) → g'.own b = some l → g.own b = some l
  keep : ∀ b, b < w.heap.size → g.own b ≠ some (r, []) → w'.heap[b]? = w.heap[b]?
  new : g.hdr (r, []) = .slice none 0 0 → ∀ b, b < w.heap.size → w'.heap[b]? = w.heap[b]?
  size : w.heap.size ≤ w'.heap.size
theorem append_core {X : Ctx} {w : World} {g : G} {r : Nat} {nl : Bool} {e t ty : TypeId} {els els2 : List (List C)} {ti : TypeInfo} {z : Value} {A : Option Addr} {cap2 : Nat} {fn : Nat → Nat → Value}
    (hok : GOK X g w) (hrow : RowRep X.P w g (r, []) (.row false nl e els)) (hu : X.P.underlying t = some (.slice e)) (hinfo : X.P.info? e = some ti) (hzero : ti.zero = some z) (hzs : z.cells.size = szOf X.P e) (h0 : 0 < szOf X.P e)
    (hs1 : ∀ (i : Nat) (c : List C), els[i]? = some c → c.length = szOf X.P e) (hs2 : ∀ (i : Nat) (c : List C), els2[i]? = some c → c.length = szOf X.P e)
    (hfit : gfit (bytesOf X.P e) (els.length + els2.length) = true) (hby : 0 < bytesOf X.P e)
    (hcells : els2 ≠ [] → ∃ ad, A = some ad ∧ ∀ i k, i < els2.length → k < szOf X.P e → w.cell? (ad.add (i * szOf X.P e + k)) = some (fn i k))
    (hreps : ∀ (i : Nat) (c : List C) (k : Nat) (q : C), els2[i]? = some c → c[k]? = some q → CRep w g q (fn i k) ∧ (fn i k).oneCell' = true)
    (hC1 : ∀ (i : Nat) (c : List C) (k : Nat) (q : C), els[i]? = some c → c[k]? = some q → C.Ok (fun l => l ≠ (r, [])) (fun rg => rg ≠ some r) q)
    (hC2 : ∀ (i : Nat) (c : List C) (k : Nat) (q : C), els2[i]? = some c → c[k]? = some q → C.Ok (fun l => l ≠ (r, [])) (fun rg => rg ≠ some r) q) :
    ∃ v' w' g', (Builtin.append_ #[t, t] ty #[g.hdr (r, []), .slice A els2.length cap2]).run X.P w = .ok v' w' ∧ AppG X r w w' g g' v' ∧ RowRep X.P w' g' (r, []) (.row false nl e (els ++ els2)) := by
  have hisz : ti.size = szOf X.P e := by simp [szOf, hinfo]
  have hib : ti.bytes = bytesOf X.P e := by simp [bytesOf, hinfo]
  simp only [gfit, decide_eq_true_eq] at hfit
  obtain ⟨fit1, fit2⟩ := hfit
  by_cases hm0 : els2 = []
  · subst hm0
    have hcap : ∃ B n c, g.hdr (r, []) = .slice B n c ∧ n ≤ c := by
      cases hrow with
      | nil _ _ hd => exact ⟨_, _, _, hd, Nat.le_refl _⟩
      | zero _ A hd => exact ⟨_, _, _, hd, Nat.le_refl _⟩
      | full _ _ _ _ bb base n cap cs f hrf => exact ⟨_, _, _, hrf.hd, hrf.hcap⟩
    obtain ⟨B, n, c', h1, h2⟩ := hcap
    refine ⟨g.hdr (r, []), w, g, by rw [h1]; exact run_append_zero hu hinfo B n c' h2 A cap2, ⟨hok, rfl, rfl, fun _ _ => rfl, fun _ _ h => h, fun _ _ _ h => h, fun _ _ _ => rfl, fun _ _ _ => rfl, Nat.le_refl _⟩, by rw [List.append_nil]; exact hrow⟩
  · obtain ⟨ad, rfl, hcell⟩ := hcells hm0
    have hone : ∀ i k, i < els2.length → k < szOf X.P e → (fn i k).oneCell' = true := fun i k hi hk => by
      have hx : els2[i]? = some (els2[i]'hi) := List.getElem?_eq_getElem hi
      exact (hreps i _ k _ hx (List.getElem?_eq_getElem (by rw [hs2 i _ hx]; exact hk))).2
    obtain ⟨fo, bOld, hbo, hbn0, hv, hro⟩ := row_old hrow hs1
    obtain ⟨v', w', hr', hA⟩ := run_append_own' (P := X.P) (w := w) (ty := ty) hu hinfo hzero (by rw [hzs, hisz]) (by rw [hisz]; exact h0) (g.hdr (r, [])) els.length els2.length fo fn bOld hv ad cap2 (List.length_pos_iff.2 hm0) hcell hone (by simp only [maxLen]; omega) (by rw [hib]; exact fit1)
    obtain ⟨⟨b1, base, cap, cs, rfl, hcap1, hmax, hfit, hh, hco, hcn, hbb, hkeep⟩, hos, htape, hout, hsize⟩ := hA
    have hown1 : ∀ l, g.own b1 = some l → l = (r, []) := fun l hl => by
      rcases hbb with hbb | hbb
      · have := hbo b1 hbb.symm
        rw [hl] at this; exact Option.some.inj this
      · have := (hok.own b1 _ hl).2.1; omega
    have hS1 : ¬ g.S b1 := by
      rcases hbb with hbb | hbb
      · exact (hok.own b1 _ (hbo b1 hbb.symm)).2.2
      · intro hS; have := (hok.S b1 hS).1; omega
    have hO1 : X.O0 b1 ∨ X.B0 ≤ b1 := by
      rcases hbb with hbb | hbb
      · exact (hok.own b1 _ (hbo b1 hbb.symm)).1
      · exact .inr (Nat.le_trans hok.base hbb)
    have hlt1 : b1 < w'.heap.size := (Array.getElem?_eq_some_iff.1 hh).1
    let g' : G := ⟨g.S, fun b0 => if b0 = b1 then some (r, []) else g.own b0, fun l => if l = (r, []) then .slice (some ⟨b1, base, none⟩) (els.length + els2.length) cap else g.hdr l⟩
    have hhd : ∀ l, l ≠ (r, []) → g'.hdr l = g.hdr l := fun l h => by simp only [g']; rw [if_neg h]
    have hreg : ∀ rg, rg ≠ some r → ∀ b0, g.reg rg b0 → g'.reg rg b0 ∧ w'.heap[b0]? = w.heap[b0]? := fun rg hne b0 hb0 => by
      have hbne : b0 ≠ b1 := fun e0 => by
        subst e0
        cases rg with
        | none => exact hS1 hb0
        | some r' =>
          rcases hb0 with hb0 | ⟨q, hb0⟩
          · exact hS1 hb0
          · have := hown1 _ hb0; cases this; exact hne rfl
      have hlt0 : b0 < w.heap.size := by
        cases rg with
        | none => exact (hok.S b0 hb0).1
        | some r' =>
          rcases hb0 with hb0 | ⟨q, hb0⟩
          · exact (hok.S b0 hb0).1
          · exact (hok.own b0 _ hb0).2.1
      refine ⟨?_, hkeep b0 hlt0 hbne⟩
      cases rg with
      | none => exact hb0
      | some r' =>
        rcases hb0 with hb0 | ⟨q, hb0⟩
        · exact .inl hb0
        · exact .inr ⟨q, by simp only [g']; rw [if_neg hbne]; exact hb0⟩
    refine ⟨_, w', g', hr', ⟨⟨hok.chg.trans ⟨hos, htape, hout, hsize, fun k hk hO => hkeep k (Nat.lt_of_lt_of_le hk hok.base) (fun e0 => by subst e0; rcases hO1 with h | h; exact hO h; omega)⟩, Nat.le_trans hok.base hsize, fun b0 hb0 => ⟨Nat.lt_of_lt_of_le (hok.S b0 hb0).1 hsize, (hok.S b0 hb0).2⟩, fun b0 l hl => ?_⟩, rfl, by simp [g'], hhd, fun b0 l hl => ?_, fun b0 l hne hl => ?_, fun b0 hb0 hne => hkeep b0 hb0 fun e0 => ?_, fun hnil b0 hb0 => hkeep b0 hb0 fun e0 => ?_, hsize⟩, ?_⟩
    · simp only [g'] at hl
      split at hl
      · rename_i e0; subst e0; cases hl; exact ⟨hO1, hlt1, hS1⟩
      · obtain ⟨h1, h2, h3⟩ := hok.own b0 l hl
        exact ⟨h1, Nat.lt_of_lt_of_le h2 hsize, h3⟩
    · simp only [g']
      by_cases e0 : b0 = b1
      · subst e0; rw [if_pos rfl, hown1 _ hl]
      · rw [if_neg e0]; exact hl
    · simp only [g'] at hl
      split at hl
      · simp only [Option.some.injEq] at hl; exact absurd hl.symm hne
      · exact hl
    · subst e0
      rcases hbb with hbb | hbb
      · exact hne (hbo b0 hbb.symm)
      · omega
    · subst e0
      rw [hbn0 hnil] at hbb
      rcases hbb with hbb | hbb
      · cases hbb
      · omega
    · have hl2 : (els ++ els2).length = els.length + els2.length := by simp
      refine .full _ _ _ _ b1 base (els.length + els2.length) cap cs (fun i k => if i < els.length then fo i k else fn (i - els.length) k) ⟨by simp [g', hdrOf], by simp [g'], hh, hl2.symm, hcap1, hmax, hfit, h0, fun i c hc => ?_, fun i c k q h1 h2 => ?_, fun i c k q h1 h2 => ?_, fun _ e0 => ?_⟩
      · rw [List.getElem?_append] at hc
        split at hc
        · exact hs1 i c hc
        · exact hs2 _ c hc
      · have hkk : k < szOf X.P e := by
          have hlt := (List.getElem?_eq_some_iff.1 h2).1
          rw [List.getElem?_append] at h1
          split at h1
          · rw [hs1 i c h1] at hlt; exact hlt
          · rw [hs2 _ c h1] at hlt; exact hlt
        by_cases hlt : i < els.length
        · rw [if_pos hlt]; exact hco i k hlt hkk
        · rw [if_neg hlt]
          have hi2 : i < (els ++ els2).length := (List.getElem?_eq_some_iff.1 h1).1
          have := hcn (i - els.length) k (by omega) hkk
          rwa [show els.length + (i - els.length) = i from by omega] at this
      · rw [List.getElem?_append] at h1
        split at h1
        · rename_i hlt
          rw [if_pos hlt]
          exact (hro i c k q h1 h2).keep hhd hreg (hC1 i c k q h1 h2)
        · rename_i hlt
          rw [if_neg hlt]
          exact (hreps _ c k q h1 h2).1.keep hhd hreg (hC2 _ c k q h1 h2)
      · have : els2 = [] := by simp at e0; exact e0.2
        exact hm0 this
end Go.Pu
/-
  Own work. Stores into elements that hold slices of their own.
-/
namespace Go.Pu
open Go Go.RowKit
set_option linter.unusedVariables false
set_option linter.unusedSectionVars false

section
variable {X : Ctx} {D : Nat → Prop} {Γ : List FE} {st : St} {ρ : Env} {a : Act} {w w' : World} {g g' : G}
theorem isDead_eq {k : RK} (h : isDead k = true) : k = .dead := by
  cases k <;> first | rfl | cases h
theorem freed_spec {r0 : Nat} {rs : List Nat} (h : st.freed r0 rs = true) : nodup rs = true ∧ rs.contains r0 = false ∧ (∀ r, r ∈ rs → st.rk r = .dead) ∧ st.rk r0 = .dead ∧
    st.slots.all (SV.okR (fun r => Nat.blt r st.nr) (fun r => Nat.blt r st.nr && !Nat.beq r r0 && !rs.contains r)) = true ∧
    (∀ r, r ≠ r0 → st.rk r ≠ .dead → (st.rk r).okR (fun r => Nat.blt r st.nr) (fun r => Nat.blt r st.nr && !Nat.beq r r0 && !rs.contains r) = true ∧ Nat.blt r st.nr = true ∧ (Nat.blt r st.nr && !Nat.beq r r0 && !rs.contains r) = true) ∧
    (∀ r, (Nat.blt r st.nr && !Nat.beq r r0 && !rs.contains r) = true → r ≠ r0 ∧ r ∉ rs) := by
  unfold St.freed St.okR at h
  simp only [Bool.and_eq_true, Bool.not_eq_true'] at h
  obtain ⟨⟨⟨⟨h1, h2⟩, h3⟩, h4⟩, h5, h6⟩ := h
  have hd : ∀ r, r ∈ rs → st.rk r = .dead := fun r hr => isDead_eq (List.all_eq_true.1 h3 r hr)
  refine ⟨h1, h2, hd, isDead_eq h4, h5, fun r hne hnd => ?_, fun r hr => ?_⟩
  · have hlt : Nat.blt r st.nr = true := by simpa using rk_lt hnd
    have hnr : rs.contains r = false := by
      cases hc : rs.contains r with
      | false => rfl
      | true => exact absurd (hd r (by simpa using hc)) hnd
    refine ⟨all_rk h6 rfl r, hlt, ?_⟩
    rw [hlt, beqN hne, hnr]; rfl
  · simp only [Bool.and_eq_true, Bool.not_eq_true'] at hr
    refine ⟨fun e => by subst e; simp at hr, fun e => ?_⟩
    have : rs.contains r = true := by simpa using e
    rw [this] at hr; cases hr.2
/-- What is taken in. -/
inductive Taken (st : St) (r0 : Nat) : Ty → SC → At → Option Nat → Prop
  | nil (e : TypeId) (b : Ty) : Taken st r0 (.sl e b) .nil (.nil (.sl e b)) none
  | own (e : TypeId) (b : Ty) (r : Nat) (x : At) (nl : Bool) (hr : st.rk r = .list e b x nl none) (hf : b.flat = true) (ht : x.ty st.ts = some (.sl e b)) (hne : r ≠ r0) (hx : st.fix.contains r = false) : Taken st r0 (.sl e b) (.h r) x (some r)
  | sc (t : Ty) (x : At) (hs : t.scalar = true) (ht : x.ty st.ts = some t) : Taken st r0 t (.v x) x none
theorem takeN_cons {r0 : Nat} {t : Ty} {ts : List Ty} {c : SC} {cs : List SC} {l : List (At × Option Nat)} (h : st.takeN r0 (t :: ts) (c :: cs) = .ok l) : ∃ x o l', l = (x, o) :: l' ∧ st.takeN r0 ts cs = .ok l' ∧ Taken st r0 t c x o := by
  simp only [St.takeN] at h
  obtain ⟨l', hl, h⟩ := ok_bind h
  split at h
  · cases h
    exact ⟨_, _, l', rfl, hl, .nil _ _⟩
  · split at h
    · rename_i e' b' val nl hr
      split at h
      · rename_i hc
        obtain ⟨rfl, rfl, hf, ht, hne, hx⟩ := hc
        cases h
        refine ⟨_, _, l', rfl, hl, .own _ _ _ val nl hr hf ht (fun e0 => ?_) (by simpa using hx)⟩
        subst e0; simp at hne
      · cases h
    · cases h
  · rename_i x hns
    split at h
    · rename_i hc
      cases h
      exact ⟨_, _, l', rfl, hl, .sc _ _ hc.1 hc.2⟩
    · cases h
  · cases h
theorem takeN_get {r0 : Nat} : ∀ (ts : List Ty) (cs : List SC) (l : List (At × Option Nat)), st.takeN r0 ts cs = .ok l → cs.length = ts.length ∧ l.length = ts.length ∧
    ∀ (j : Nat) (c : SC) (t : Ty) (x : At) (o : Option Nat), ts[j]? = some t → cs[j]? = some c → l[j]? = some (x, o) → Taken st r0 t c x o
  | [], [], l, h => by simp only [St.takeN] at h; cases h; exact ⟨rfl, rfl, fun j c t x o h => by simp at h⟩
  | t :: ts, c :: cs, l, h => by
    obtain ⟨x, o, l', rfl, h1, h2⟩ := takeN_cons h
    obtain ⟨e1, e2, e3⟩ := takeN_get ts cs l' h1
    refine ⟨by simp [e1], by simp [e2], fun j c' t' x' o' q1 q2 q3 => ?_⟩
    cases j with
    | zero =>
      simp only [List.getElem?_cons_zero, Option.some.injEq, Prod.mk.injEq] at q1 q2 q3
      obtain ⟨rfl, rfl⟩ := q3
      subst q1 q2
      exact h2
    | succ j => exact e3 j c' t' x' o' (by simpa using q1) (by simpa using q2) (by simpa using q3)
  | [], _ :: _, _, h => by simp [St.takeN] at h
  | _ :: _, [], _, h => by simp [St.takeN] at h
theorem Taken.ty {r0 : Nat} {t : Ty} {c : SC} {x : At} {o : Option Nat} (h : Taken st r0 t c x o) : x.ty st.ts = some t := by
  cases h with
  | nil => rfl
  | own _ _ _ _ _ _ _ ht => exact ht
  | sc _ _ _ ht => exact ht
theorem mem_takenOf {l : List (At × Option Nat)} {j : Nat} {x : At} {r : Nat} (h : l[j]? = some (x, some r)) : r ∈ takenOf l := by
  unfold takenOf
  rw [List.mem_filterMap]
  exact ⟨_, List.mem_of_getElem? h, rfl⟩
theorem takenOf_inj : ∀ {l : List (At × Option Nat)}, nodup (takenOf l) = true → ∀ {j j' : Nat} {x x' : At} {r : Nat}, l[j]? = some (x, some r) → l[j']? = some (x', some r) → j = j'
  | [], _, _, _, _, _, _, h, _ => by simp at h
  | (x0, none) :: l, hn, j, j', x, x', r, h, h' => by
    have hn : nodup (takenOf l) = true := hn
    cases j with
    | zero => simp at h
    | succ j => cases j' with
      | zero => simp at h'
      | succ j' => exact congrArg (· + 1) (takenOf_inj hn (by simpa using h) (by simpa using h'))
  | (x0, some r0) :: l, hn, j, j', x, x', r, h, h' => by
    have hn : (!(takenOf l).contains r0 && nodup (takenOf l)) = true := hn
    simp only [Bool.and_eq_true, Bool.not_eq_true'] at hn
    have no : ∀ {j : Nat} {x : At}, l[j]? = some (x, some r0) → False := fun h => by
      have : (takenOf l).contains r0 = true := by simpa using mem_takenOf h
      rw [this] at hn; cases hn.1
    cases j with
    | zero => cases j' with
      | zero => rfl
      | succ j' => simp only [List.getElem?_cons_zero, Option.some.injEq, Prod.mk.injEq] at h; obtain ⟨_, rfl⟩ := h; exact (no (by simpa using h')).elim
    | succ j => cases j' with
      | zero => simp only [List.getElem?_cons_zero, Option.some.injEq, Prod.mk.injEq] at h'; obtain ⟨_, rfl⟩ := h'; exact (no (by simpa using h)).elim
      | succ j' => exact congrArg (· + 1) (takenOf_inj hn.2 (by simpa using h) (by simpa using h'))
/-- A taken cell serves its leaf. -/
theorem Taken.fit (htyp : ρ.map V.t = st.ts) {r0 : Nat} {t : Ty} {c : SC} {x : At} {o : Option Nat} (h : Taken st r0 t c x o) {u : Value} (hu : CRep w g (c.enc ρ) u) : Fit g (o.map fun r => (r, [])) (x.get ρ) u := by
  have hty := At.ty_get htyp h.ty
  cases h with
  | nil e b =>
    simp only [SC.enc] at hu
    exact ⟨fun _ => (by cases hu; rfl), fun h => by rw [hty] at h; cases h⟩
  | own e b r x nl hr hf ht hne hx =>
    simp only [SC.enc] at hu
    exact ⟨fun _ => hd_eq hu, fun h => by rw [hty] at h; cases h⟩
  | sc t x hs ht =>
    simp only [SC.enc] at hu
    cases t with
    | int k =>
      rw [V.int_of hty] at hu ⊢
      refine ⟨fun h => (by cases h), fun _ w2 g2 r2 i2 k2 => ?_⟩
      simp only [V.c] at hu
      cases hu; exact .int _ _
    | bool =>
      rw [V.bool_of hty] at hu ⊢
      refine ⟨fun h => (by cases h), fun _ w2 g2 r2 i2 k2 => ?_⟩
      simp only [V.c] at hu
      cases hu; exact .bool _
    | _ => cases hs
/-- Cells that do not look at the world. -/
def Plain (q : C) : Prop := (∃ k z, q = .int k z) ∨ (∃ b, q = .bool b) ∨ q = .nil ∨ ∃ l, q = .hd l
theorem Plain.world {q : C} {u : Value} (h : Plain q) (hq : CRep w g q u) : CRep w' g q u := by
  rcases h with ⟨k, z, rfl⟩ | ⟨b, rfl⟩ | rfl | ⟨l, rfl⟩
  · cases hq; exact .int _ _
  · cases hq; exact .bool _
  · cases hq; exact .nil
  · exact .hd _ _ (hd_eq hq)
theorem Taken.plain (hi : TInv X D st ρ a w g) {r0 : Nat} {t : Ty} {c : SC} {x : At} {o : Option Nat} (h : Taken st r0 t c x o) : Plain (c.enc ρ) := by
  have hty := At.ty_get hi.typ h.ty
  cases h with
  | nil e b => simp only [SC.enc]; exact .inr (.inr (.inl rfl))
  | own e b r x nl hr hf ht hne hx => simp only [SC.enc]; exact .inr (.inr (.inr ⟨_, rfl⟩))
  | sc t x hs ht =>
    simp only [SC.enc]
    cases t with
    | int k => rw [V.int_of hty]; exact .inl ⟨_, _, rfl⟩
    | bool => rw [V.bool_of hty]; exact .inr (.inl ⟨_, rfl⟩)
    | _ => cases hs
theorem leafC_plain {b : Ty} {y : b.den} {j : Nat} {V : V} (hf : b.flat1 = true) (h : (leafs b y)[j]? = some V) (r i k : Nat) : Plain (leafC r i k V) := by
  rcases flat1_leaf b y j V hf h with ⟨kd, z, rfl⟩ | ⟨bv, rfl⟩ | ⟨e, a, xs, rfl, _⟩
  · exact .inl ⟨_, _, rfl⟩
  · exact .inr (.inl ⟨_, rfl⟩)
  · exact .inr (.inr (.inr ⟨_, rfl⟩))
theorem leafC_fit {b : Ty} {y : b.den} {j : Nat} {V : V} (hf : b.flat1 = true) (h : (leafs b y)[j]? = some V) {r i k : Nat} {u : Value} (hu : CRep w g (leafC r i k V) u) : Fit g (some (r, [(i, k)])) V u := by
  rcases flat1_leaf b y j V hf h with ⟨kd, z, rfl⟩ | ⟨bv, rfl⟩ | ⟨e, a, xs, rfl, _⟩
  · refine ⟨fun h => (by cases h), fun _ w2 g2 r2 i2 k2 => ?_⟩
    cases hu; exact .int _ _
  · refine ⟨fun h => (by cases h), fun _ w2 g2 r2 i2 k2 => ?_⟩
    cases hu; exact .bool _
  · exact ⟨fun _ => hd_eq hu, fun h => by cases h⟩
theorem leafRow_ty {b : Ty} {y : b.den} {j : Nat} {V : V} (hf : b.flat1 = true) (h : (leafs b y)[j]? = some V) : ∀ e a xs, V = ⟨.sl e a, xs⟩ → a.flat = true := fun e a xs hz => by
  rcases flat1_leaf b y j V hf h with ⟨kd, z, rfl⟩ | ⟨bv, rfl⟩ | ⟨e', a', zs', rfl, hfa⟩
  · cases hz
  · cases hz
  · cases hz; exact hfa
/-- A list of flat elements, as the row behind a leaf. -/
theorem list_leaf (hi : TInv X D st ρ a w g) {r : Nat} {e : TypeId} {b : Ty} {x : At} {nl : Bool} (hr : st.rk r = .list e b x nl none) (hf : b.flat = true) (ht : x.ty st.ts = some (.sl e b)) {row : Row} (h : leafRow (x.get ρ) = some row) : RowRep X.P w g (r, []) row := by
  rw [V.list_of (At.ty_get hi.typ ht)] at h
  have hrow := row_of hi hr
  generalize (x.get ρ).as (.sl e b) = xs at h hrow
  simp only [leafRow, Option.some.injEq] at h
  subst h
  refine hrow.rel (ml := fun _ _ => False) (mr := fun _ _ => False) (fun _ _ h => h.elim) (fun _ _ h => h.elim) rfl (fun b0 hb0 => ⟨hb0, rfl⟩) (.row _ _ _ _ _ _ (fun h => by cases h) (by simp) (fun i cs cs' q1 q2 => ?_) (fun i cs cs' k y y' q1 q2 q3 q4 => ?_))
  · rw [List.getElem?_mapIdx, Option.map_eq_some_iff] at q1
    rw [List.getElem?_map, Option.map_eq_some_iff] at q2
    obtain ⟨z, hz, rfl⟩ := q1
    obtain ⟨z', hz', rfl⟩ := q2
    simp only [encIn, encE_length, enc_length]
  · rw [List.getElem?_mapIdx, Option.map_eq_some_iff] at q1
    rw [List.getElem?_map, Option.map_eq_some_iff] at q2
    obtain ⟨z, hz, rfl⟩ := q1
    obtain ⟨z', hz', rfl⟩ := q2
    rw [hz] at hz'; cases hz'
    simp only [encIn, encE_flat r i none 0 b z hf] at q3
    exact enc_rel b (.inl hf) z k y y' q3 q4
theorem row_world {l : Loc} {row : Row} {P : Program} (h : RowRep P w g l row) (hr : Row.Rel (fun _ _ => False) (fun _ _ => False) row row) (hb : ∀ b, g.own b = some l → w'.heap[b]? = w.heap[b]?) : RowRep P w' g l row :=
  h.rel (fun _ _ h => h.elim) (fun _ _ h => h.elim) rfl (fun b0 hb0 => ⟨hb0, hb b0 hb0⟩) hr
theorem splice_cellTy (b : Ty) (k m : Nat) (h : k + m ≤ b.n) : splice b.leaves k (b.cellTy k m) = b.leaves := by
  have hl := leaves_length b
  have hc : (b.cellTy k m).length = m := by unfold Ty.cellTy; simp; omega
  apply List.ext_getElem?
  intro j
  rw [splice_get _ _ _ (by omega), hc]
  split
  · rename_i hj
    unfold Ty.cellTy
    rw [List.getElem?_take, if_pos (by omega), List.getElem?_drop]
    congr 1; omega
  · rfl
/-- The leaves of a value turned in part. -/
theorem leafs_splice (hi : TInv X D st ρ a w g) {r0 : Nat} {b : Ty} {z : b.den} {ρ1 : Env} {n k : Nat} {cs : List SC} {l : List (At × Option Nat)} (hg : Ref.get (ρ ++ ρ1) ⟨n, []⟩ = ⟨b, z⟩) (ht : st.takeN r0 (b.cellTy k cs.length) cs = .ok l) (hk : k + cs.length ≤ b.n) :
    leafs b (mkv b ((splice (oldAtoms n b) k (l.map (·.1))).map (At.get (ρ ++ ρ1)))).1 = splice (leafs b z) k (l.map fun p => p.1.get ρ) := by
  obtain ⟨e1, e2, e3⟩ := takeN_get _ _ _ ht
  have hll : l.length = cs.length := by omega
  have hx : (l.map (·.1)).map (At.get (ρ ++ ρ1)) = l.map fun p => p.1.get ρ := by
    rw [List.map_map]
    apply List.map_congr_left
    intro p hp
    obtain ⟨j, hj⟩ := List.getElem?_of_mem hp
    have hjl : j < cs.length := by rw [← hll]; exact (List.getElem?_eq_some_iff.1 hj).1
    obtain ⟨x, o⟩ := p
    have := e3 j _ _ x o (List.getElem?_eq_getElem (by omega)) (List.getElem?_eq_getElem hjl) hj
    exact At.get_app (by rw [hi.len]; exact At.ty_lt this.ty)
  have ho : (oldAtoms n b).map (At.get (ρ ++ ρ1)) = leafs b z := by
    unfold oldAtoms
    rw [List.map_map]
    exact old_leafs n b [] z hg
  rw [splice_map, ho, hx]
  refine leafs_mk b _ ?_
  rw [splice_map, leafs_ty]
  have : (l.map fun p => p.1.get ρ).map V.t = b.cellTy k cs.length := by
    apply List.ext_getElem?
    intro j
    rw [List.getElem?_map, List.getElem?_map, Option.map_map]
    cases hj : l[j]? with
    | none =>
      rw [List.getElem?_eq_none (by rw [← e2]; exact List.getElem?_eq_none_iff.1 hj)]; rfl
    | some p =>
      have hjl : j < l.length := (List.getElem?_eq_some_iff.1 hj).1
      have ht : (b.cellTy k cs.length)[j]? = some ((b.cellTy k cs.length)[j]'(by omega)) := List.getElem?_eq_getElem (by omega)
      obtain ⟨x, o⟩ := p
      have := e3 j _ _ x o ht (List.getElem?_eq_getElem (by omega)) hj
      rw [ht]
      simp only [Option.map_some, Function.comp, Option.some.injEq]
      exact At.ty_get hi.typ this.ty
  rw [this, splice_cellTy b k _ hk]
theorem strike_ok (rs : List Nat) (h : TInv X D st ρ a w g) : TInv X D (st.strike rs) ρ a w g := killR_ok' _ _ h
theorem dirtyTo_spec {r : Nat} (h : st.dirtyTo r = true) : (st.dirty = [] ∨ st.dirty.contains (r, true) = true) ∧ ∀ r', st.dirty ≠ [(r', true)] := by
  unfold St.dirtyTo at h
  simp only [Bool.or_eq_true, Bool.and_eq_true, Nat.blt_eq] at h
  rcases h with h | ⟨h1, h2⟩
  · have h : st.dirty = [] := by simpa using h
    exact ⟨.inl h, fun r' e => by rw [h] at e; cases e⟩
  · exact ⟨.inr h1, fun r' e => by rw [e] at h2; simp at h2⟩
theorem killR_dirty : ∀ (l : List (Nat × Bool)) (st : St), (killR l st).dirty = st.dirty
  | [], st => rfl
  | (r, io) :: l, st => by
    simp only [killR]
    split
    · exact killR_dirty l _
    · exact killR_dirty l st
end
end Go.Pu
/-
  Own work. Stores into elements that hold slices of their own, from the operation.
-/
namespace Go.Pu
open Go Go.RowKit
set_option linter.unusedVariables false
set_option linter.unusedSectionVars false

section
variable {X : Ctx} {D : Nat → Prop} {Γ : List FE} {st : St} {ρ : Env} {a : Act} {w w' : World} {g g' : G}
variable {d : Nat} {x y : Operand} {t t' ty : TypeId} {ps : String} {af : Array Edge} {gd : Option (Nat × Bool)} {s : Step} {nr : Bool}
theorem rows_listH_nil {r : Nat} {e : TypeId} {b : Ty} {v i : At} {nl : Bool} {k : Nat} : RK.rows ρ r (.listH e b v nl i k) [] = some (.row false nl e (((v.get ρ).as (.sl e b)).mapIdx fun i y => encE r i 0 b y)) := rfl
theorem storeNest_ok {r : Nat} {ex e : TypeId} {i : At} {k : Nat} {b : Ty} {v : At} {nl : Bool} {cs : List SC} {vy : SV} (h : storeNest X.P st t cs r ex i k e b v nl = .ok s) {Q : Env → Prop} (hxp : ∀ ρ a w g, TInv X D st ρ a w g → Q ρ → PRep X.P w g ((SV.ad r ex i k).enc ρ) (a.eval x)) (hy : st.val y = .ok vy) (hcs : st.cells vy = .ok cs)
    (hr : st.rk r = .list e b v nl none ∨ ∃ k', st.rk r = .listH e b v nl i k' ∧ k ≤ k' ∧ k' < k + cs.length) : ∀ ρ ρ' a w g, Q ρ → TInv X D st ρ a w g → st.wf = true → st.rok = true → evalB Γ (s.es.map (·.1)) ρ = some ρ' →
    (⟨none, .store t x y, ty, ps, af, gd⟩ : Oper).wp X.P a w (fun a' w' => (false = true → RelD D w w') ∧ ∃ g', TInv X D s.st ρ' a' w' g') (fun _ _ _ => False) := by
  unfold storeNest at h
  obtain ⟨l, hl, h⟩ := ok_bind h
  simp only at h
  generalize hst5 : (((((st.bind b).bind b).bind (.sl e b)).kill false r).setR r .dead).strike (takenOf l) = st5 at h
  by_cases hc : (cs.length = szOf X.P t ∧ 0 < szOf X.P t ∧ ex = e ∧ b.flat1 = true ∧ v.ty st.ts = some (.sl e b) ∧ i.lt st.ts.length = true ∧ k + cs.length ≤ b.n ∧ b.n = szOf X.P e ∧ st.dirtyTo r = true ∧ st5.freed r (takenOf l) = true ∧ st5.nr = st.nr ∧ (((st.bind b).bind b).bind (.sl e b)).wf = true ∧ st.rok = true ∧ st.wf = true)
  case neg => rw [if_pos hc] at h; cases h
  rw [if_neg (fun hh => hh hc)] at h
  simp only [Except.ok.injEq] at h
  subst h
  obtain ⟨hlt, h0, rfl, hf, hvt, hil, hkl, hbn, hdt, hfr, hnr5, _, _, _⟩ := hc
  intro ρ ρ' a w g hQ hi hw hk hev
  obtain ⟨q1, q2⟩ := cells_rep hi hy hcs
  have hvg := V.list_of (At.ty_get hi.typ hvt)
  -- rows as they are
  have hrow : RowRep X.P w g (r, []) (.row false nl ex (((v.get ρ).as (.sl ex b)).mapIdx fun i y => encE r i 0 b y)) := by
    rcases hr with hr | ⟨k', hr, _⟩
    · exact row_of hi hr
    · exact hi.inv.row (r, []) _ (by simp only [hr]; rfl)
  have hrowS : ∀ (i2 j : Nat) (y2 : b.den) (row : Row), ((v.get ρ).as (.sl ex b) : List b.den)[i2]? = some y2 → subRow 0 b y2 j = some row → ¬ (i2 = i.nat ρ ∧ k ≤ j ∧ j < k + cs.length) → RowRep X.P w g (r, [(i2, j)]) row := fun i2 j y2 row h1 h2 h3 => by
    refine hi.inv.row (r, [(i2, j)]) row ?_
    rcases hr with hr | ⟨k', hr, hk1, hk2⟩
    · simp only [hr, RK.rows, h1]; exact h2
    · simp only [hr, RK.rows, h1]
      have hb : (Nat.beq i2 (i.nat ρ) && Nat.beq j k') = false := by
        cases hb : (Nat.beq i2 (i.nat ρ) && Nat.beq j k') with
        | false => rfl
        | true =>
          simp only [Bool.and_eq_true] at hb
          have e1 := Nat.eq_of_beq_eq_true hb.1
          have e2 := Nat.eq_of_beq_eq_true hb.2
          exact absurd ⟨e1, by omega, by omega⟩ h3
      rw [hb]; exact h2
  generalize hxs : (v.get ρ).as (.sl ex b) = zs at hrow hrowS hvg
  obtain ⟨v1, hv1, hev⟩ := evalB_cons hev
  obtain ⟨v2, hv2, hev⟩ := evalB_cons hev
  obtain ⟨v3, hv3, hev⟩ := evalB_cons hev
  have := evalB_nil hev
  subst this
  simp only [Ex.den1, Ex.den, hvg, Option.bind_eq_some_iff, Option.some.injEq] at hv1
  obtain ⟨z, hz, rfl⟩ := hv1
  obtain ⟨z0, z1, z2⟩ := gget_ok hz
  have hnx : st.nx = ρ.length := by rw [hi.len]; rfl
  have hg1 : Ref.get (ρ ++ [⟨b, z⟩]) ⟨st.nx, []⟩ = ⟨b, z⟩ := by
    have : (st.ref).get (ρ ++ [⟨b, z⟩]) = ⟨b, z⟩ := ref_get hi.len
    exact this
  have hleafs := leafs_splice hi (ρ1 := [⟨b, z⟩]) hg1 hl hkl
  simp only [Ex.den1, Ex.den, Option.some.injEq] at hv2
  generalize hz2 : (mkv b ((splice (oldAtoms st.nx b) k (l.map (·.1))).map (At.get (ρ ++ [⟨b, z⟩])))).1 = zn at hv2 hleafs
  subst hv2
  have hva : At.get ((ρ ++ [⟨b, z⟩]) ++ [⟨b, zn⟩]) v = ⟨.sl ex b, zs⟩ := by
    rw [List.append_assoc, At.get_app (by rw [hi.len]; exact At.ty_lt hvt)]; exact hvg
  have hia : At.get ((ρ ++ [⟨b, z⟩]) ++ [⟨b, zn⟩]) i = i.get ρ := by
    rw [List.append_assoc, At.get_app (by rw [hi.len]; exact hil)]
  have hna : At.get ((ρ ++ [⟨b, z⟩]) ++ [⟨b, zn⟩]) (.r ⟨st.nx + 1, []⟩) = ⟨b, zn⟩ := by
    simp only [At.get, Ref.get, V.proj, hnx]
    simp [List.getD]
  simp only [Ex.den1, Ex.den, hva, hia, hna, V.as_self, Option.some.injEq] at hv3
  subst hv3
  have hset : gset zs (i.get ρ).int zn = zs.set (i.get ρ).int.toNat zn := rfl
  have hi3 : TInv X D (((st.bind b).bind b).bind (.sl ex b)) (((ρ ++ [⟨b, z⟩]) ++ [⟨b, zn⟩]) ++ [⟨.sl ex b, gset zs (i.get ρ).int zn⟩]) a w g := by
    have := hi.grow hw [⟨b, z⟩, ⟨b, zn⟩, ⟨.sl ex b, gset zs (i.get ρ).int zn⟩]
    simpa [St.bind] using this
  have hv3g : (At.get (((ρ ++ [⟨b, z⟩]) ++ [⟨b, zn⟩]) ++ [⟨.sl ex b, gset zs (i.get ρ).int zn⟩]) (.r ⟨st.nx + 2, []⟩)).as (.sl ex b) = gset zs (i.get ρ).int zn := by
    have : At.get (((ρ ++ [⟨b, z⟩]) ++ [⟨b, zn⟩]) ++ [⟨.sl ex b, gset zs (i.get ρ).int zn⟩]) (.r ⟨st.nx + 2, []⟩) = ⟨.sl ex b, gset zs (i.get ρ).int zn⟩ := by
      simp only [At.get, Ref.get, V.proj, hnx]
      simp [List.getD]
    rw [this]; exact V.as_self _ _
  rw [hset] at hv3g
  obtain ⟨b', base', hd1, hxe⟩ := hxp ρ a w g hi hQ
  have hNe : i.nat ρ = (i.get ρ).int.toNat := rfl
  rw [hNe] at hrowS hxe
  generalize hN : (i.get ρ).int.toNat = N at *
  generalize hels : (zs.mapIdx fun i y => encE r i 0 b y) = els at hrow
  have hget : els[N]? = some (encE r N 0 b z) := by rw [← hels, List.getElem?_mapIdx, z2]; rfl
  have hgetE : ∀ (i2 : Nat) (c : List C), els[i2]? = some c → ∃ y2, zs[i2]? = some y2 ∧ c = encE r i2 0 b y2 := fun i2 c hc => by
    rw [← hels, List.getElem?_mapIdx, Option.map_eq_some_iff] at hc
    obtain ⟨y2, hy2, rfl⟩ := hc
    exact ⟨y2, hy2, rfl⟩
  have hzl : els.length = zs.length := by rw [← hels]; simp
  obtain ⟨t1, t2, t3⟩ := takeN_get _ _ _ hl
  have hll : l.length = cs.length := by omega
  cases hrow with
  | nil => simp at hget
  | zero => simp at hget
  | full _ _ _ _ bb base n cap vs f hrf =>
    have hbb : b' = bb ∧ base' = base := by
      have hd := hrf.hd
      rw [hd] at hd1
      rcases hd1 with ⟨_, _, h1⟩ | h1 <;> simp [hdrOf] at h1
      exact ⟨h1.1.1.symm, h1.1.2.symm⟩
    obtain ⟨rfl, rfl⟩ := hbb
    have hone : ∀ u ∈ (a.eval y).cells.toList, u.oneCell' = true := fun u hu => by
      obtain ⟨j, hj⟩ := List.getElem?_of_mem hu
      have hjl : j < cs.length := by rw [← q1]; have := (List.getElem?_eq_some_iff.1 hj).1; simpa using this
      obtain ⟨u', hu', _, h1⟩ := q2 j _ (List.getElem?_eq_getElem (by rw [encL_map, List.length_map]; exact hjl))
      have : (a.eval y).cells[j]? = some u := by simpa using hj
      rw [this] at hu'; cases hu'; exact h1
    have hoffle : base' + (N * szOf X.P ex + k) + szOf X.P t ≤ vs.size := by
      have h1 := hrf.len
      have h2 := hrf.hcap
      have h3 := hrf.fit
      have h4 := (List.getElem?_eq_some_iff.1 hget).1
      have : (N + 1) * szOf X.P ex ≤ cap * szOf X.P ex := Nat.mul_le_mul_right _ (by omega)
      rw [Nat.add_mul, Nat.one_mul] at this
      omega
    have hrun := run_storeVar (P := X.P) (w := w) (t := t) (v := a.eval y) (b := b') (off := base' + (N * szOf X.P ex + k)) (cs := vs) (e := ex) h0 (by rw [q1, hlt]) hone hrf.heap hoffle
    unfold Oper.wp
    simp only [execOp, hxe, Instr.storeAt, Instr.sureAddr, Sem.run_bind, Sem.run_pure, Result.andThen_ok, hrun, Oper.upon]
    refine ⟨fun e => (by cases e), ?_⟩
    have hob := hi.inv.ok.own b' _ hrf.own
    have hvl : (a.eval y).cells.toList.length = cs.length := by simpa using q1
    have hNl : N < zs.length := by rw [← hzl]; exact (List.getElem?_eq_some_iff.1 hget).1
    have hgy : ∀ (j : Nat) (q : C), (encL ρ cs)[j]? = some q → ∃ x o t0, (b.cellTy k cs.length)[j]? = some t0 ∧ l[j]? = some (x, o) ∧ Plain q ∧ (l.map fun p => p.1.get ρ)[j]? = some (x.get ρ) ∧ (∀ u, CRep w g q u → Fit g (o.map fun r => (r, [])) (x.get ρ) u) ∧ ∃ c, Taken st r t0 c x o := fun j q hq => by
      rw [encL_map, List.getElem?_map, Option.map_eq_some_iff] at hq
      obtain ⟨c, hc, rfl⟩ := hq
      have hjl : j < cs.length := (List.getElem?_eq_some_iff.1 hc).1
      have htj : (b.cellTy k cs.length)[j]? = some ((b.cellTy k cs.length)[j]'(by omega)) := List.getElem?_eq_getElem (by omega)
      have hlj : l[j]? = some (l[j]'(by omega)) := List.getElem?_eq_getElem (by omega)
      generalize l[j]'(by omega) = p at hlj
      obtain ⟨x, o⟩ := p
      have ht := t3 j c _ x o htj hc hlj
      exact ⟨x, o, _, htj, hlj, ht.plain hi, by rw [List.getElem?_map, hlj]; rfl, fun u hu => ht.fit hi.typ hu, c, ht⟩
    have hencl : (encL ρ cs).length = cs.length := by rw [encL_map, List.length_map]
    have hspl : (splice (encE r N 0 b z) k (encL ρ cs)).length = b.n := by rw [splice_length _ _ _ (by rw [encE_length, hencl]; exact hkl), encE_length]
    -- the world behind
    have hrw : RowRep X.P (w.setRow b' (vs.toList.take (base' + (N * szOf X.P ex + k)) ++ (a.eval y).cells.toList ++ vs.toList.drop (base' + (N * szOf X.P ex + k) + (a.eval y).cells.toList.length)).toArray) g (r, []) (.row false nl ex (els.set N (splice (encE r N 0 b z) k (encL ρ cs)))) := by
      refine row_write hrf hget (by rw [hvl]; omega) rfl hrf.own (by simp) (fun i' c' hc' => ?_) (fun i' c' k' q hc' hq => ?_)
      · rcases set_get (by rw [hzl]; exact hNl) hc' with ⟨rfl, rfl⟩ | ⟨_, hc'⟩
        · rw [hspl]; exact hbn
        · exact hrf.size i' c' hc'
      · rcases set_get (by rw [hzl]; exact hNl) hc' with ⟨rfl, rfl⟩ | ⟨hne, hc'⟩
        · rw [splice_get _ _ _ (by rw [encE_length, hencl]; exact hkl), hencl] at hq
          split at hq
          · rename_i hin
            left
            obtain ⟨u, hu, hr1, _⟩ := q2 (k' - k) q hq
            obtain ⟨_, _, _, _, _, hpl, _⟩ := hgy (k' - k) q hq
            exact ⟨rfl, hin.1, by omega, u, by simpa using hu, hpl.world hr1⟩
          · rename_i hin
            right
            have hq2 := hq
            rw [encE_leaf, Option.map_eq_some_iff] at hq2
            obtain ⟨V, hV, rfl⟩ := hq2
            exact ⟨fun h => hin ⟨h.2.1, by omega⟩, ⟨_, _, hget, hq⟩, (leafC_plain hf hV _ _ _).world (hrf.rep _ _ k' _ hget hq)⟩
        · right
          obtain ⟨y2, hy2, rfl⟩ := hgetE i' c' hc'
          have hq2 := hq
          rw [encE_leaf, Option.map_eq_some_iff] at hq2
          obtain ⟨V, hV, rfl⟩ := hq2
          exact ⟨fun h => hne h.1, ⟨_, _, hc', hq⟩, (leafC_plain hf hV _ _ _).world (hrf.rep _ _ k' _ hc' hq)⟩
    have hother : ∀ b2, b2 ≠ b' → (w.setRow b' (vs.toList.take (base' + (N * szOf X.P ex + k)) ++ (a.eval y).cells.toList ++ vs.toList.drop (base' + (N * szOf X.P ex + k) + (a.eval y).cells.toList.length)).toArray).heap[b2]? = w.heap[b2]? := fun b2 hb2 => setRow_other w b' b2 _ hb2
    have hgok : GOK X g (w.setRow b' (vs.toList.take (base' + (N * szOf X.P ex + k)) ++ (a.eval y).cells.toList ++ vs.toList.drop (base' + (N * szOf X.P ex + k) + (a.eval y).cells.toList.length)).toArray) := gok_write hi.inv.ok hrf.own _
    generalize w.setRow b' (vs.toList.take (base' + (N * szOf X.P ex + k)) ++ (a.eval y).cells.toList ++ vs.toList.drop (base' + (N * szOf X.P ex + k) + (a.eval y).cells.toList.length)).toArray = w' at hrw hother hgok
    have S : Stab (((st.bind b).bind b).bind (.sl ex b)).nr false r w g w' g := stab_write hrf.own hob.2.2 hother
    have hm : TInv X D { (((((st.bind b).bind b).bind (.sl ex b)).kill false r).setR r .dead) with dirty := st.dirty } (((ρ ++ [⟨b, z⟩]) ++ [⟨b, zn⟩]) ++ [⟨.sl ex b, gset zs (i.get ρ).int zn⟩]) a w' g :=
      hi3.mut (rok_bind (rok_bind (rok_bind hk _) _) _) S hgok .dead (fun p row hp => by rw [rows_dead] at hp; cases hp) (fun h => by cases h) (fun b2 l hl hb2 => ⟨hb2, hother b2 fun e0 => by subst e0; rw [hrf.own] at hb2; cases hb2; exact hl rfl⟩) st.dirty hi.dirt
    have h5 := strike_ok (takenOf l) hm
    have e5 : ({ (((((st.bind b).bind b).bind (.sl ex b)).kill false r).setR r .dead) with dirty := st.dirty } : St).strike (takenOf l) = st5 := hst5
    rw [e5] at h5
    have hd5 : st5.dirty = st.dirty := by rw [← hst5]; exact killR_dirty _ _
    obtain ⟨f1, f2, f3, f4, f5, f6, f7⟩ := freed_spec hfr
    obtain ⟨dd1, dd2⟩ := dirtyTo_spec hdt
    rw [hset] at h5 ⊢
    let src : Nat → Nat → Option Loc := fun i2 j => if i2 = N ∧ k ≤ j ∧ j < k + cs.length then ((l[j - k]?).bind (·.2)).map (fun r2 => (r2, [])) else some (r, [(i2, j)])
    have hsrcIn : ∀ (j : Nat) (x : At) (o : Option Nat), k ≤ j → j < k + cs.length → l[j - k]? = some (x, o) → src N j = o.map fun r => (r, []) := fun j x o h1 h2 h3 => by
      simp only [src]
      rw [if_pos ⟨trivial, h1, h2⟩, h3]; rfl
    have hsrcOut : ∀ (i2 j : Nat), ¬ (i2 = N ∧ k ≤ j ∧ j < k + cs.length) → src i2 j = some (r, [(i2, j)]) := fun i2 j h => by simp only [src]; rw [if_neg h]
    have hsrcCase : ∀ (i2 j : Nat) (l0 : Loc), src i2 j = some l0 → (i2 = N ∧ k ≤ j ∧ j < k + cs.length ∧ ∃ x r2, l[j - k]? = some (x, some r2) ∧ l0 = (r2, [])) ∨ (¬ (i2 = N ∧ k ≤ j ∧ j < k + cs.length) ∧ l0 = (r, [(i2, j)])) := fun i2 j l0 h => by
      simp only [src] at h
      split at h
      · rename_i hin
        left
        rw [Option.map_eq_some_iff] at h
        obtain ⟨r2, h1, rfl⟩ := h
        rw [Option.bind_eq_some_iff] at h1
        obtain ⟨⟨x, o⟩, h2, h3⟩ := h1
        simp only at h3
        subst h3
        exact ⟨hin.1, hin.2.1, hin.2.2, x, r2, h2, rfl⟩
      · rename_i hin
        cases h
        exact .inr ⟨hin, rfl⟩
    refine Exists.elim (h5.regroup (R0 := r) (e := ex) (b := b) (v := .r ⟨st.nx + 2, []⟩) (nl := nl) (xs := zs.set N zn) (els := els.set N (splice (encE r N 0 b z) k (encL ρ cs))) src hv3g hf f5 f6 (fun r2 hr2 => ?_) (fun i1 j1 i2 j2 l0 h1 h2 => ?_) (fun i2 j h => ?_) (by rw [hd5]; exact dd1) (by rw [hd5]; exact dd2) hrw (by simp [hzl]) (fun i2 c y2 hc hy2 => ?_) (fun i2 y2 j V row hy2 hV hVr => ?_)) (fun g' hg' => ⟨g', hg'.1⟩)
    · obtain ⟨p1, p2⟩ := f7 r2 hr2
      refine ⟨p1, fun i2 j p h => ?_⟩
      rcases hsrcCase i2 j _ h with ⟨_, _, _, x, r3, h1, h2⟩ | ⟨_, h2⟩
      · cases h2; exact p2 (mem_takenOf h1)
      · cases h2; exact p1 rfl
    · rcases hsrcCase _ _ _ h1 with ⟨a1, a2, a3, x, r3, a4, a5⟩ | ⟨a1, a2⟩ <;> rcases hsrcCase _ _ _ h2 with ⟨b1, b2, b3, x', r3', b4, b5⟩ | ⟨b1, b2⟩
      · rw [a5] at b5; cases b5
        have := takenOf_inj f1 a4 b4
        rw [a1, b1, show j1 = j2 from by omega]
      · rw [a5] at b2; cases b2
      · rw [a2] at b5; cases b5
      · rw [a2] at b2; cases b2; rfl
    · rcases hsrcCase _ _ _ h with ⟨_, _, _, x, r3, h1, h2⟩ | ⟨_, h2⟩
      · cases h2
        have : (takenOf l).contains r = true := by simpa using mem_takenOf h1
        rw [this] at f2; cases f2
      · cases h2
    · rcases set_get (by rw [hzl]; exact hNl) hc with ⟨rfl, rfl⟩ | ⟨hne, hc⟩
      · have hy3 : y2 = zn := by rw [List.getElem?_set_self hNl] at hy2; cases hy2; rfl
        subst hy3
        refine ⟨hspl, fun j q V u hq hV hu => ?_⟩
        rw [hleafs, splice_get _ _ _ (by rw [leafs_length, List.length_map]; omega), List.length_map] at hV
        rw [splice_get _ _ _ (by rw [encE_length, hencl]; exact hkl), hencl] at hq
        split at hq
        · rename_i hin
          rw [if_pos (by omega)] at hV
          obtain ⟨x, o, t0, g1, g2, g3, g4, g5, _⟩ := hgy (j - k) q hq
          rw [g4] at hV
          cases hV
          rw [hsrcIn j x o hin.1 hin.2 g2]
          exact g5 u (g3.world hu)
        · rename_i hin
          rw [if_neg (by omega)] at hV
          rw [encE_leaf, hV] at hq
          cases hq
          rw [hsrcOut _ _ (fun h => hin h.2), Nat.zero_add] at *
          exact leafC_fit hf hV hu
      · rw [List.getElem?_set_ne (Ne.symm hne)] at hy2
        obtain ⟨y3, hy3, rfl⟩ := hgetE i2 c hc
        rw [hy2] at hy3
        cases hy3
        refine ⟨encE_length _ _ _ _ _, fun j q V u hq hV hu => ?_⟩
        rw [encE_leaf, hV, Nat.zero_add] at hq
        cases hq
        rw [hsrcOut _ _ (fun h => hne h.1)]
        exact leafC_fit hf hV hu
    · have hfl := leafRow_ty hf hV
      have hrr : Row.Rel (fun _ _ => False) (fun _ _ => False) row row := leafRow_flat hVr hfl
      by_cases hin : i2 = N ∧ k ≤ j ∧ j < k + cs.length
      · obtain ⟨rfl, hk1, hk2⟩ := hin
        have hy3 : y2 = zn := by rw [List.getElem?_set_self hNl] at hy2; cases hy2; rfl
        subst hy3
        rw [hleafs, splice_get _ _ _ (by rw [leafs_length, List.length_map]; omega), List.length_map, if_pos (by omega)] at hV
        obtain ⟨x, o, t0, g1, g2, g3, g4, g5, c, g6⟩ := hgy (j - k) _ (List.getElem?_eq_getElem (by rw [hencl]; omega))
        rw [g4] at hV
        cases hV
        rw [hsrcIn j x o hk1 hk2 g2]
        cases g6 with
        | nil e' b2 =>
          simp only [Option.map_none]
          simp only [At.get, Ty.dflt, leafRow, List.map_nil, Option.some.injEq] at hVr
          exact ⟨e', hVr.symm⟩
        | own e' b2 r2 x nl2 hr2 hf2 ht2 hne2 hx2 =>
          simp only [Option.map_some]
          refine row_world (list_leaf hi hr2 hf2 ht2 hVr) hrr fun b2 hb2 => hother b2 fun e0 => ?_
          subst e0; rw [hrf.own] at hb2; cases hb2; exact hne2 rfl
        | sc t0 x hs ht =>
          have hty := At.ty_get hi.typ ht
          cases t0 with
          | int kd => rw [V.int_of hty] at hVr; cases hVr
          | bool => rw [V.bool_of hty] at hVr; cases hVr
          | _ => cases hs
      · rw [hsrcOut _ _ hin]
        have key : ∃ y3, zs[i2]? = some y3 ∧ (leafs b y3)[j]? = some V := by
          by_cases hiN : i2 = N
          · subst hiN
            have hy3 : y2 = zn := by rw [List.getElem?_set_self hNl] at hy2; cases hy2; rfl
            subst hy3
            rw [hleafs, splice_get _ _ _ (by rw [leafs_length, List.length_map]; omega), List.length_map, if_neg (fun h => hin ⟨(by first | rfl | trivial), by omega, by omega⟩)] at hV
            exact ⟨z, z2, hV⟩
          · rw [List.getElem?_set_ne (Ne.symm hiN)] at hy2
            exact ⟨y2, hy2, hV⟩
        obtain ⟨y3, hy3, hV3⟩ := key
        refine row_world (hrowS i2 j y3 row hy3 ?_ hin) hrr fun b2 hb2 => hother b2 fun e0 => ?_
        · have := subRow_leaf b 0 y3 j
          rw [Nat.zero_add, hV3] at this
          rw [this]; exact hVr
        · subst e0; rw [hrf.own] at hb2; cases hb2
theorem storeNest_wf {r : Nat} {ex e : TypeId} {i : At} {k : Nat} {b : Ty} {v : At} {nl : Bool} {cs : List SC} (h : storeNest X.P st t cs r ex i k e b v nl = .ok s) : st.wf = true := by
  unfold storeNest at h
  obtain ⟨l, hl, h⟩ := ok_bind h
  simp only at h
  split at h
  · cases h
  · rename_i hc
    have hc := Decidable.of_not_not hc
    exact hc.2.2.2.2.2.2.2.2.2.2.2.2.2
theorem store_ok (h : stepStore X.P st t x y = .ok s) : WStep X D Γ false st ⟨none, .store t x y, ty, ps, af, gd⟩ s := by
  unfold stepStore at h
  obtain ⟨vy, hy, h⟩ := ok_bind h
  obtain ⟨cs, hcs, h⟩ := ok_bind h
  obtain ⟨vx, hx, h⟩ := ok_bind h
  split at h
  · rename_i q hq
    unfold nestOf at hq
    split at hq
    · rename_i r ex i k
      split at hq
      · rename_i e b v nl hr
        split at hq
        · cases hq
        · cases hq
          exact fun ρ ρ' a w g => storeNest_ok (Q := fun _ => True) h (fun ρ a w g hi _ => val_rep hi hx) hy hcs (.inl hr) ρ ρ' a w g trivial
      · rename_i e b v nl i' k' hr
        split at hq
        · rename_i hc
          cases hq
          obtain ⟨rfl, h1, h2⟩ := hc
          exact fun ρ ρ' a w g => storeNest_ok (Q := fun _ => True) h (fun ρ a w g hi _ => val_rep hi hx) hy hcs (.inr ⟨k', hr, h1, h2⟩) ρ ρ' a w g trivial
        · cases hq
      · cases hq
    · cases hq
  · split at h
    · rename_i r ex i k e b v nl i' hsm
      by_cases hc : (i.lt st.ts.length = true ∧ i'.lt st.ts.length = true ∧ st.wf = true)
      case neg => rw [if_pos hc] at h; cases h
      rw [if_neg (fun hh => hh hc)] at h
      obtain ⟨vy0, hy0, h⟩ := ok_bind h
      obtain ⟨cs0, hcs0, h⟩ := ok_bind h
      split at h
      · cases h
      · rename_i hcl
        have hcl : cs0.length = cs.length := Decidable.of_not_not hcl
        obtain ⟨s1, hs1, h⟩ := ok_bind h
        simp only [Except.ok.injEq] at h
        subst h
        unfold sameOf at hsm
        split at hsm
        case h_2 => cases hsm
        split at hsm
        case h_2 => cases hsm
        rename_i hr
        split at hsm
        case isFalse => cases hsm
        rename_i hrange
        cases hsm
        intro ρ ρ' a w g hi hw hk hev
        obtain ⟨v1, hv1, hev⟩ := evalB_cons hev
        simp only [Ex.den1, Ex.den, gsame, Option.bind_eq_some_iff, Option.some.injEq] at hv1
        obtain ⟨_, hv1, rfl⟩ := hv1
        split at hv1
        case isFalse => cases hv1
        rename_i heq
        have hi1 : TInv X D (st.bind .unit) (ρ ++ [V.u]) a w g := hi.bindOne hw (v := V.u) rfl
        have hn1 : i.nat (ρ ++ [V.u]) = i.nat ρ := nat_app (by rw [hi.len]; exact hc.1)
        have hn2 : i'.nat (ρ ++ [V.u]) = i'.nat ρ := nat_app (by rw [hi.len]; exact hc.2.1)
        have hne : i.nat ρ = i'.nat ρ := by unfold At.nat; rw [heq]
        have hwf1 : (st.bind .unit).wf = true := by
          have := storeNest_wf hs1
          exact this
        refine storeNest_ok (Q := fun ρ1 => ρ1 = ρ ++ [V.u]) hs1 (fun ρ1 a1 w1 g1 hi2 hQ => ?_) hy0 hcs0 (.inr ⟨_, hr, by rw [hcl]; exact hrange⟩) _ ρ' a w g rfl hi1 hwf1 (rok_bind hk _) hev
        subst hQ
        have hv := val_rep hi2 (o := x) (sv := .ad r ex i k) hx
        simp only [SV.enc, hn1, hn2, hne] at hv ⊢
        exact hv
    · exact store0_ok h
end
end Go.Pu
/-
  Own work. A slice taken out of its list for a while; append to it.
-/
namespace Go.Pu
open Go Go.RowKit
set_option linter.unusedVariables false
set_option linter.unusedSectionVars false

section
variable {X : Ctx} {D : Nat → Prop} {Γ : List FE} {st : St} {ρ : Env} {a : Act} {w w' : World} {g g' : G}
variable {d : Nat} {x y : Operand} {t t' ty : TypeId} {ps : String} {af : Array Edge} {gd : Option (Nat × Bool)} {s : Step} {nr : Bool}
theorem evalB_app : ∀ (xs ys : List Ex) {ρ ρ' : Env}, evalB Γ (xs ++ ys) ρ = some ρ' → ∃ ρ1, evalB Γ xs ρ = some ρ1 ∧ evalB Γ ys ρ1 = some ρ'
  | [], ys, ρ, ρ', h => ⟨ρ, rfl, h⟩
  | e :: xs, ys, ρ, ρ', h => by
    obtain ⟨v, h1, h2⟩ := evalB_cons h
    obtain ⟨ρ1, h3, h4⟩ := evalB_app xs ys h2
    exact ⟨ρ1, by simp only [evalB, h1, Option.bind_some]; exact h3, h4⟩
theorem flat_rows {ml : Loc → Loc → Prop} {mr : Rg → Rg → Prop} {bx nl nl' : Bool} {e : TypeId} {b : Ty} {r : Nat} {xs : List b.den} (hf : b.flat = true) (hn : nl' = true → nl = true) :
    Row.Rel ml mr (.row bx nl e (List.map (enc none b) xs)) (.row bx nl' e (xs.mapIdx fun i y => encIn none r i b y)) := by
  refine .row _ _ _ _ _ _ hn (by simp) (fun i cs cs' q1 q2 => ?_) (fun i cs cs' k y y' q1 q2 q3 q4 => ?_)
  · rw [List.getElem?_map, Option.map_eq_some_iff] at q1
    rw [List.getElem?_mapIdx, Option.map_eq_some_iff] at q2
    obtain ⟨z, hz, rfl⟩ := q1
    obtain ⟨z', hz', rfl⟩ := q2
    simp only [encIn, encE_length, enc_length]
  · rw [List.getElem?_map, Option.map_eq_some_iff] at q1
    rw [List.getElem?_mapIdx, Option.map_eq_some_iff] at q2
    obtain ⟨z, hz, rfl⟩ := q1
    obtain ⟨z', hz', rfl⟩ := q2
    rw [hz] at hz'; cases hz'
    simp only [encIn, encE_flat r i none 0 b z hf] at q4
    exact enc_rel b (.inl hf) z k y y' q3 q4
theorem sl_of {V : V} {e : TypeId} {b : Ty} (h : V.t = .sl e b) : ∃ xs : List b.den, V = ⟨.sl e b, xs⟩ := by
  obtain ⟨t, x⟩ := V
  simp only at h
  subst h
  exact ⟨x, rfl⟩
theorem takeOut_ok (hi : TInv X D st ρ a w g) {r k : Nat} {i : At} {es : List (Ex × Ty)} {st' : St} (h : st.takeOut r i k = .ok (es, st')) {ρ' : Env} (hev : evalB Γ (es.map (·.1)) ρ = some ρ') :
    ∃ g', TInv X D st' ρ' a w g' ∧ g'.hdr (st.nr, []) = g.hdr (r, [(i.nat ρ, k)]) ∧ (∀ l, l.1 < st.nr → g'.hdr l = g.hdr l) ∧ (∀ b0, g'.own b0 = some (st.nr, []) → g.own b0 = some (r, [(i.nat ρ, k)])) ∧ (∃ ρ1, ρ' = ρ ++ ρ1) ∧ r < st.nr ∧ st'.nr = st.nr + 1 ∧ i.lt st.ts.length = true := by
  unfold St.takeOut at h
  split at h
  case h_2 => cases h
  rename_i e b v nl hr
  split at h
  case h_2 => cases h
  rename_i e' b' p hle hpa
  simp only at h
  by_cases hc : (b.flat1 = true ∧ b'.flat = true ∧ v.ty st.ts = some (.sl e b) ∧ i.lt st.ts.length = true ∧ st.wf = true ∧ st.rok = true ∧ Nat.blt r st.nr = true ∧ (st.dirty.all fun p => Nat.blt p.1 st.nr) = true ∧
      ((((st.bind b).kill false r).setR r (.listH e b v nl i k)).okR (fun r' => Nat.blt r' st.nr) (fun r' => Nat.blt r' st.nr && !Nat.beq r' r)) = true)
  case neg => rw [if_pos hc] at h; cases h
  rw [if_neg (fun hh => hh hc)] at h
  simp only [Except.ok.injEq, Prod.mk.injEq] at h
  obtain ⟨rfl, rfl⟩ := h
  obtain ⟨hf, hf', hvt, hil, hw, hk, hrlt, hdl, hokr⟩ := hc
  have hrlt : r < st.nr := by simpa using hrlt
  obtain ⟨v1, hv1, rfl⟩ := evalB_one hev
  have hvg := V.list_of (At.ty_get hi.typ hvt)
  have hrow := row_of hi hr
  have hsub : ∀ (i2 j : Nat) (y2 : b.den) (row : Row), ((v.get ρ).as (.sl e b) : List b.den)[i2]? = some y2 → subRow 0 b y2 j = some row → RowRep X.P w g (r, [(i2, j)]) row := fun i2 j y2 row h1 h2 =>
    hi.inv.row (r, [(i2, j)]) row (by simp only [hr, RK.rows, h1]; exact h2)
  generalize hxs : (v.get ρ).as (.sl e b) = zs at hrow hsub hvg
  simp only [Ex.den1, Ex.den, hvg, Option.bind_eq_some_iff, Option.some.injEq] at hv1
  obtain ⟨z, hz, rfl⟩ := hv1
  obtain ⟨z0, z1, z2⟩ := gget_ok hz
  have hNe : i.nat ρ = (i.get ρ).int.toNat := rfl
  rw [← hNe] at z2
  generalize hN : i.nat ρ = N at *
  have hnx : st.nx = ρ.length := by rw [hi.len]; rfl
  have hg1 : Ref.get (ρ ++ [⟨b, z⟩]) ⟨st.nx, []⟩ = ⟨b, z⟩ := by
    have : (st.ref).get (ρ ++ [⟨b, z⟩]) = ⟨b, z⟩ := ref_get hi.len
    exact this
  have hi1 := hi.bindOne hw (v := ⟨b, z⟩) rfl
  have hik := hi1.killOnly (rok_bind hk _) r
  -- the leaf
  obtain ⟨V, hV, hVt⟩ : ∃ V, (leafs b z)[k]? = some V ∧ V.t = .sl e' b' := by
    have hlt : k < (leafs b z).length := by rw [leafs_length, ← leaves_length]; exact (List.getElem?_eq_some_iff.1 hle).1
    refine ⟨_, List.getElem?_eq_getElem hlt, ?_⟩
    have h1 := leafs_ty b z
    have h2 : ((leafs b z).map V.t)[k]? = some (.sl e' b') := by rw [h1]; exact hle
    rw [List.getElem?_map, List.getElem?_eq_getElem hlt] at h2
    simpa using h2
  obtain ⟨ys, rfl⟩ := sl_of hVt
  have hpv : (At.r ⟨st.nx, p⟩).get (ρ ++ [⟨b, z⟩]) = ⟨.sl e' b', ys⟩ := by
    have h1 := old_leafs st.nx b [] z hg1
    have h2 : ((pathsOf [] b).map (fun q => (At.r ⟨st.nx, q⟩).get (ρ ++ [⟨b, z⟩])))[k]? = some ⟨.sl e' b', ys⟩ := by rw [h1]; exact hV
    rw [List.getElem?_map, hpa] at h2
    simpa using h2
  have hvk : RowRep X.P w g (r, [(N, k)]) (.row false false e' (List.map (enc none b') ys)) := hsub N k z _ z2 (by
    have := subRow_leaf b 0 z k
    rw [Nat.zero_add, hV] at this
    rw [this]; rfl)
  have hva : (v.get (ρ ++ [⟨b, z⟩])).as (.sl e b) = zs := by rw [At.get_app (by rw [hi.len]; exact At.ty_lt hvt)]; exact hxs
  have hia : i.nat (ρ ++ [⟨b, z⟩]) = N := by rw [nat_app (by rw [hi.len]; exact hil)]; exact hN
  -- ghosts
  let g' : G := { S := g.S, own := fun b0 => match g.own b0 with | none => none | some l => if l = (r, [(N, k)]) then some (st.nr, []) else if st.nr ≤ l.1 then none else some l,
                  hdr := fun l => if l.1 = st.nr then g.hdr (r, [(N, k)]) else g.hdr l }
  have hok := hi.inv.ok
  have ho1 : ∀ b0, g.own b0 = some (r, [(N, k)]) → g'.own b0 = some (st.nr, []) := fun b0 h => by simp only [g', h, if_true]
  have ho2 : ∀ b0 l, g.own b0 = some l → l ≠ (r, [(N, k)]) → l.1 < st.nr → g'.own b0 = some l := fun b0 l h1 h2 h3 => by
    simp only [g', h1]
    rw [if_neg h2, if_neg (by omega)]
  have ho3 : ∀ b0 l, g'.own b0 = some l → (l = (st.nr, []) ∧ g.own b0 = some (r, [(N, k)])) ∨ (g.own b0 = some l ∧ l ≠ (r, [(N, k)]) ∧ l.1 < st.nr) := fun b0 l h => by
    simp only [g'] at h
    split at h
    · cases h
    · rename_i l0 h0
      split at h
      · rename_i e0; cases h; subst e0; exact .inl ⟨rfl, h0⟩
      · rename_i e0
        split at h
        · cases h
        · cases h; exact .inr ⟨h0, e0, by omega⟩
  have hh1 : ∀ l, l.1 < st.nr → g'.hdr l = g.hdr l := fun l h => by simp only [g']; rw [if_neg (by omega)]
  have hh2 : g'.hdr (st.nr, []) = g.hdr (r, [(N, k)]) := by simp only [g', if_true]
  have ho4 : ∀ b0, g'.own b0 = some (st.nr, []) → g.own b0 = some (r, [(N, k)]) := fun b0 h => by
    rcases ho3 b0 _ h with ⟨_, h⟩ | ⟨_, _, h⟩
    · exact h
    · simp at h
  refine ⟨g', ?_, hh2, hh1, ho4, ⟨_, rfl⟩, hrlt, by simp [St.push, St.setR, St.kill, St.bind, St.nr], hil⟩
  unfold St.okR at hokr
  simp only [Bool.and_eq_true] at hokr
  have hlen : ((st.bind b).kill false r).roots.length = st.nr := by simp [St.kill, St.bind, St.nr]
  have hrk : ∀ r0, r0 ≠ r → (((st.bind b).kill false r).setR r ((st.bind b).rk r)).rk r0 = (((st.bind b).kill false r).setR r (.listH e b v nl i k)).rk r0 := fun r0 h => by rw [setR_rk_ne h, setR_rk_ne h]
  have e1 : ({ (((st.bind b).kill false r).setR r ((st.bind b).rk r)) with roots := ((((st.bind b).kill false r).setR r ((st.bind b).rk r)).roots.set r (.listH e b v nl i k)) ++ [.list e' b' (.r ⟨st.nx, p⟩) false none], dirty := if st.dirty.isEmpty then [] else st.dirty ++ [(st.nr, false)] } : St)
        = { ((((st.bind b).kill false r).setR r (.listH e b v nl i k)).push (.list e' b' (.r ⟨st.nx, p⟩) false none)) with dirty := if st.dirty.isEmpty then [] else st.dirty ++ [(st.nr, false)] } := by
    simp only [St.setR, St.push, List.set_set]
  rw [← e1]
  refine hik.surg (w' := w) (g' := g') (fun r' => Nat.blt r' st.nr) (fun r' => Nat.blt r' st.nr && !Nat.beq r' r)
    (roots' := (((((st.bind b).kill false r).setR r ((st.bind b).rk r)).roots.set r (.listH e b v nl i k)) ++ [.list e' b' (.r ⟨st.nx, p⟩) false none]))
    (dirty' := if st.dirty.isEmpty then [] else st.dirty ++ [(st.nr, false)]) hokr.1 (fun l hpl => hh1 l (by simpa using hpl.1)) (fun rg hrg b0 hb0 => ?_)
    ⟨hok.chg, hok.base, hok.S, fun b0 l h => ?_⟩ (fun r0 p0 row hrw => ?_) (fun r0 hr0 => ?_) ⟨fun b0 hb0 => ?_, fun r0 b0 q hq => ?_⟩
  · refine ⟨?_, rfl⟩
    cases rg with
    | none => exact hb0
    | some r1 =>
      have hp := hrg r1 rfl
      simp only [Bool.and_eq_true, Nat.blt_eq, Bool.not_eq_true'] at hp
      rcases hb0 with hb0 | ⟨q, hb0⟩
      · exact .inl hb0
      · refine .inr ⟨q, ho2 _ _ hb0 (fun e0 => ?_) hp.1⟩
        cases e0
        simp at hp
  · rcases ho3 b0 l h with ⟨_, h⟩ | ⟨h, _⟩ <;> exact hok.own b0 _ h
  · have hlen2 : ((((st.bind b).kill false r).setR r ((st.bind b).rk r)).roots.set r (.listH e b v nl i k)).length = st.nr := by rw [List.length_set]; simp only [St.setR, List.length_set]; exact hlen
    have keepR : ∀ (l : Loc) (row : Row), l.1 < st.nr → l ≠ (r, [(N, k)]) → RowRep X.P w g l row → Row.Ok (fun l => l.1 < st.nr) (prOf fun _ => false) row → RowRep X.P w g' l row := fun l row h1 h2 h3 h4 =>
      h3.keep (fun l hl => hh1 l hl) (fun rg hrg b0 hb0 => by
        cases rg with
        | none => exact ⟨hb0, rfl⟩
        | some r1 => cases hrg r1 rfl) (hh1 l h1) (fun b0 hb0 => ⟨ho2 _ _ hb0 h2 h1, rfl⟩) h4
    by_cases e0 : r0 = r
    · right
      subst e0
      have hget : (((((st.bind b).kill false r0).setR r0 ((st.bind b).rk r0)).roots.set r0 (.listH e b v nl i k)) ++ [RK.list e' b' (.r ⟨st.nx, p⟩) false none]).getD r0 .dead = .listH e b v nl i k := by
        rw [List.getD, List.getElem?_append_left (by rw [hlen2]; exact hrlt), List.getElem?_set_self (by simp only [St.setR, List.length_set]; rw [hlen]; exact hrlt)]; rfl
      rw [hget] at hrw
      cases p0 with
      | nil =>
        rw [rows_listH_nil, hva] at hrw
        cases hrw
        refine keepR _ _ hrlt (fun e0 => by cases e0) hrow fun i2 c k2 q h1 h2 => ?_
        rw [List.getElem?_mapIdx, Option.map_eq_some_iff] at h1
        obtain ⟨y2, hy2, rfl⟩ := h1
        exact encE_ok (fun _ => hrlt) b 0 y2 k2 q h2
      | cons q0 p0 =>
        obtain ⟨rfl, hne, y2, hy2, hs2⟩ := rows_cons_listH hrw
        rw [hva] at hy2
        rw [hia] at hne
        exact keepR _ _ hrlt (fun e0 => hne (by cases e0; rfl)) (hsub q0.1 q0.2 y2 row hy2 hs2) (subRow_ok _ _ _ _ _ hs2)
    · by_cases e1 : r0 < st.nr
      · left
        have hget : (((((st.bind b).kill false r).setR r ((st.bind b).rk r)).roots.set r (.listH e b v nl i k)) ++ [RK.list e' b' (.r ⟨st.nx, p⟩) false none]).getD r0 .dead = (((st.bind b).kill false r).setR r ((st.bind b).rk r)).rk r0 := by
          rw [List.getD, List.getElem?_append_left (by rw [hlen2]; exact e1), List.getElem?_set_ne (Ne.symm e0)]; rfl
        refine ⟨hget, ?_, by simpa using e1, ?_, fun b0 p1 hb0 => ⟨ho2 _ _ hb0 (fun e2 => by cases e2; exact e0 rfl) e1, rfl⟩⟩
        · rw [hrk r0 e0]; exact all_rk hokr.2 rfl r0
        · rw [beqN e0]; simpa using e1
      · right
        by_cases e2 : r0 = st.nr
        · subst e2
          have hget : (((((st.bind b).kill false r).setR r ((st.bind b).rk r)).roots.set r (.listH e b v nl i k)) ++ [RK.list e' b' (.r ⟨st.nx, p⟩) false none]).getD st.nr .dead = .list e' b' (.r ⟨st.nx, p⟩) false none := by
            rw [List.getD, List.getElem?_append_right (by rw [hlen2]; exact Nat.le_refl _), hlen2]; simp
          rw [hget] at hrw
          cases p0 with
          | cons q0 p0 =>
            obtain ⟨_, rfl, y2, hy2, hs2⟩ := rows_cons_list hrw
            rw [flat_noRow _ _ _ _ hf'] at hs2; cases hs2
          | nil =>
            rw [rows_nil_list, hpv, V.as_self] at hrw
            cases hrw
            exact hvk.rel (ml := fun _ _ => False) (mr := fun _ _ => False) (fun _ _ h => h.elim) (fun _ _ h => h.elim) hh2 (fun b0 hb0 => ⟨ho1 _ hb0, rfl⟩) (flat_rows hf' fun h => h)
        · have hget : (((((st.bind b).kill false r).setR r ((st.bind b).rk r)).roots.set r (.listH e b v nl i k)) ++ [RK.list e' b' (.r ⟨st.nx, p⟩) false none]).getD r0 .dead = .dead := by
            rw [List.getD, List.getElem?_eq_none (by rw [List.length_append, hlen2]; simp; omega)]; rfl
          rw [hget, rows_dead] at hrw; cases hrw
  · refine hh1 _ ?_
    unfold St.rok at hk
    simp only [Bool.and_eq_true] at hk
    simpa using List.all_eq_true.1 hk.2 r0 hr0
  · obtain ⟨p1, q, h1, h2, h3⟩ := hi.dirt.1 b0 hb0
    have hne : st.dirty.isEmpty = false := by
      cases hd : st.dirty with
      | nil => rw [hd] at h1; cases h1
      | cons _ _ => rfl
    rw [hne]
    simp only [Bool.false_eq_true, if_false]
    by_cases e0 : (p1.1, q) = (r, [(N, k)])
    · exact ⟨(st.nr, false), [], by simp, ho1 _ (by rw [h2, e0]), by simp⟩
    · refine ⟨p1, q, by simp [h1], ho2 _ _ h2 e0 ?_, h3⟩
      simpa using List.all_eq_true.1 hdl p1 h1
  · exfalso
    split at hq
    · cases hq
    · rename_i hne
      have := congrArg List.length hq
      simp at this
      exact hne (by simpa using this)
/-- Append to a slice within a list's element. -/
theorem appHn_ok (hN : d < X.N) {r k : Nat} {i xx : At} (hx : st.val x = .ok (.c (.hn r i k xx))) (hd : nr = true → st.dirty = [(r, true)])
    (h : (do
      let z ← st.takeOut r i k
      let vy ← z.2.val y
      if !(z.2.wf && z.2.rok) then .error "append state" else
      let s ← appFlat X.P z.2 d t st.nr vy
      .ok ⟨z.1 ++ s.es, s.st⟩ : M Step) = .ok s) :
    WStep X D Γ nr st ⟨some d, .call { callee := .builtin .append, args := #[x, y], argTypes := #[t, t] }, ty, ps, af, gd⟩ s := by
  obtain ⟨⟨es, st1⟩, hz, h⟩ := ok_bind h
  obtain ⟨vy, hvy, h⟩ := ok_bind h
  simp only at h hvy
  by_cases hc : (st1.wf && st1.rok) = true
  case neg => rw [if_pos (by rw [Bool.eq_false_iff.2 hc]; rfl)] at h; cases h
  rw [if_neg (fun hh => by rw [hc] at hh; cases hh)] at h
  obtain ⟨s1, hs1, h⟩ := ok_bind h
  simp only [Except.ok.injEq] at h
  subst h
  simp only [Bool.and_eq_true] at hc
  intro ρ ρ' a w g hi hw hk hev
  rw [List.map_append] at hev
  obtain ⟨ρ1, hev1, hev2⟩ := evalB_app _ _ hev
  obtain ⟨g1, hi1, h1, h2, h3, _⟩ := takeOut_ok hi hz hev1
  have hxr := val_rep hi hx
  have hxv : a.eval x = g1.hdr (st.nr, []) := by
    have : CRep w g (.both (.hd (r, [(i.nat ρ, k)])) (.ro (some r) ((xx.get ρ).els (some r)))) (a.eval x) := by simpa [SV.enc, SC.enc, PRep] using hxr
    rw [hd_eq (both_l this), h1]
  refine Oper.wp_mono (fun a' w' q => ⟨fun hn => ⟨q.2.1.1, fun b0 hb0 hD => q.2.1.2 b0 hb0 fun ho => ?_⟩, q.2.2.imp fun _ h => h.1⟩) (appFlat_ok hN hs1 hi1 hc.1 hc.2 hev2 hxv (.inl hvy))
  exact hD (hi.dirt.2 r b0 _ (hd hn) (h3 b0 ho) (by simp))
end
end Go.Pu
/-
  Own work. Lists whose elements hold slices of their own: literals of one element, append.
-/
namespace Go.Pu
open Go Go.RowKit
set_option linter.unusedVariables false
set_option linter.unusedSectionVars false

section
variable {X : Ctx} {D : Nat → Prop} {Γ : List FE} {st : St} {ρ : Env} {a : Act} {w w' : World} {g g' : G}
variable {d : Nat} {x y : Operand} {t t' ty : TypeId} {ps : String} {af : Array Edge} {gd : Option (Nat × Bool)} {s : Step} {nr : Bool}
theorem run_buildOne {e : TypeId} {b : Ty} {o : Operand} (ρo : Operand → Value) (he : elemOf X.P t = some e) (hbn : b.n = szOf X.P e) (h0 : 0 < b.n) (hsm : b.n ≤ 16777216) (hz : (zeroN X.P e).isSome = true) (hsz : (ρo o).cells.size = b.n) :
    ∃ cs : Array Value, (execOp ρo ⟨some d, .buildSlice t 1 #[(0, o)], ty, ps, af, gd⟩).run X.P w = .ok (.value (.slice (some ⟨w.heap.size, 0, none⟩) 1 1)) (w.alloc (.cells cs e)) ∧ cs.size = b.n ∧ ∀ j, j < b.n → cs[j]? = (ρo o).cells[j]? := by
  obtain ⟨N, hzN⟩ := Option.isSome_iff_exists.1 hz
  obtain ⟨i, z, hinfo, hzero, hzs⟩ := zeroN_spec hzN
  have hu := elem_under he
  let cs0 := (Array.range (1 * b.n)).map (z.cells[· % z.cells.size]!)
  have hcs0 : cs0.size = 1 * b.n := by simp [cs0]
  obtain ⟨cs, hfill, hcsz, _, hcells⟩ := fill_all b.n [ρo o] 0 cs0 (fun v hv => by simp at hv; subst hv; exact hsz) (by rw [hcs0]; simp)
  refine ⟨cs, ?_, by rw [hcsz, hcs0]; omega, fun j hj => by have := hcells 0 (ρo o) rfl j hj; simpa using this⟩
  have hlim : ¬ (1 * b.n > 2 ^ 24) := by omega
  have hm1 : ¬ 1 * b.n = 0 := by omega
  have hfill' : Instr.fill (fun i => some (i * b.n, b.n)) ((Array.range (1 * b.n)).map (z.cells[· % z.cells.size]!)) [(0, ρo o)] = some cs := hfill
  rw [Nat.one_mul] at hfill'
  have hzv : (zeroValue e).run X.P w = .ok z w := by simp [zeroValue, typeInfo, hinfo, hzero]
  have hso := run_sizeOf (P := X.P) (w := w) (t := e) (by omega)
  rw [← hbn] at hso
  simp only [execOp, Instr.buildSlice, Sem.run_bind, run_underlying hu, Result.andThen_ok, hso, hlim, if_false, hm1, hzv, Sem.run_pure]
  simp [hfill', newRow]
theorem taken_leafs (hi : TInv X D st ρ a w g) {r0 : Nat} {b : Ty} {cs : List SC} {l : List (At × Option Nat)} (ht : st.takeN r0 b.leaves cs = .ok l) : leafs b (mkv b ((l.map (·.1)).map (At.get ρ))).1 = l.map fun p => p.1.get ρ := by
  obtain ⟨e1, e2, e3⟩ := takeN_get _ _ _ ht
  rw [List.map_map]
  refine leafs_mk b _ ?_
  apply List.ext_getElem?
  intro j
  rw [List.getElem?_map, List.getElem?_map, Option.map_map]
  cases hj : l[j]? with
  | none => rw [List.getElem?_eq_none (by rw [← e2]; exact List.getElem?_eq_none_iff.1 hj)]; rfl
  | some p =>
    have hjl : j < l.length := (List.getElem?_eq_some_iff.1 hj).1
    have ht : b.leaves[j]? = some (b.leaves[j]'(by omega)) := List.getElem?_eq_getElem (by omega)
    obtain ⟨x, o⟩ := p
    have := e3 j _ _ x o ht (List.getElem?_eq_getElem (by omega)) hj
    rw [ht]
    simp only [Option.map_some, Function.comp, Option.some.injEq]
    exact At.ty_get hi.typ this.ty
theorem Taken.lt {r0 : Nat} {t : Ty} {c : SC} {x : At} {r : Nat} (h : Taken st r0 t c x (some r)) : r < st.nr := by
  cases h with
  | own e b r x nl hr => exact rk_lt (fun e0 => by rw [hr] at e0; cases e0)
theorem buildNest_ok (hN : d < X.N) {e : TypeId} {b : Ty} {o : Operand} (he : elemOf X.P t = some e) (h : buildNest X.P st d e b [(0, o)] = .ok s) : WStep X D Γ nr st ⟨some d, .buildSlice t 1 #[(0, o)], ty, ps, af, gd⟩ s := by
  unfold buildNest at h
  obtain ⟨v, hv, h⟩ := ok_bind h
  obtain ⟨cs, hcs, h⟩ := ok_bind h
  obtain ⟨l, hl, h⟩ := ok_bind h
  simp only at h
  generalize hst3 : (((st.bind (.sl e b)).push .dead).put d (.c (.h st.nr))).strike (takenOf l) = st3 at h
  by_cases hc : (b.flat1 = true ∧ b.n = szOf X.P e ∧ 0 < b.n ∧ b.n ≤ 16777216 ∧ (zeroN X.P e).isSome = true ∧ st3.freed st.nr (takenOf l) = true ∧ st3.nr = st.nr + 1 ∧ st.dirty.isEmpty = true)
  case neg => rw [if_pos hc] at h; cases h
  rw [if_neg (fun hh => hh hc)] at h
  simp only [Except.ok.injEq] at h
  subst h
  obtain ⟨hf, hbn, h0, hsm, hz, hfr, hnr3, hdty⟩ := hc
  intro ρ ρ' a w g hi hw hk hev
  obtain ⟨q1, q2⟩ := cells_rep hi hv hcs
  obtain ⟨t1, t2, t3⟩ := takeN_get _ _ _ hl
  have hcl : cs.length = b.n := by rw [t1, leaves_length]
  obtain ⟨v1, hv1, rfl⟩ := evalB_one hev
  simp only [Ex.den1, Ex.den, List.map_cons, List.map_nil, Option.some.injEq] at hv1
  subst hv1
  have hleafs := taken_leafs hi hl
  generalize hy0 : (mkv b ((l.map (·.1)).map (At.get ρ))).1 = y0 at hleafs
  obtain ⟨csA, hrun, hcsz, hcells⟩ := run_buildOne (d := d) (ty := ty) (ps := ps) (af := af) (gd := gd) (w := w) (o := o) a.eval he hbn h0 hsm hz (by rw [q1, hcl])
  unfold Oper.wp
  rw [hrun]
  refine ⟨fun _ => .of_lat (lat_alloc _ _), ?_⟩
  have hi2 := hi.bindOne hw (v := ⟨.sl e b, [y0]⟩) rfl
  obtain ⟨g1, hg1, n1, n2, n3, n4⟩ := hi2.newRootX (rok_bind hk _) hN .dead (.cells csA e) (.slice (some ⟨w.heap.size, 0, none⟩) 1 1) (fun g' _ _ _ _ _ _ p row hr => by rw [rows_dead] at hr; cases hr)
  have hnr2 : (st.bind (.sl e b)).nr = st.nr := rfl
  rw [hnr2] at n1 n2 n3
  have h3 := strike_ok (takenOf l) hg1
  have e3 : (((st.bind (.sl e b)).push .dead).put d (.c (.h (st.bind (.sl e b)).nr))).strike (takenOf l) = st3 := hst3
  rw [e3] at h3
  have hd3 : st3.dirty = [] := by
    rw [← hst3]
    have h1 : (((((st.bind (.sl e b)).push .dead).put d (.c (.h st.nr))).strike (takenOf l))).dirty = st.dirty := killR_dirty _ _
    rw [h1]; simpa using hdty
  obtain ⟨f1, f2, f3, f4, f5, f6, f7⟩ := freed_spec hfr
  have hgy : ∀ (j : Nat) (q : C), (encL ρ cs)[j]? = some q → ∃ x o t0 c, l[j]? = some (x, o) ∧ q = c.enc ρ ∧ (l.map fun p => p.1.get ρ)[j]? = some (x.get ρ) ∧ Taken st st.nr t0 c x o := fun j q hq => by
    rw [encL_map, List.getElem?_map, Option.map_eq_some_iff] at hq
    obtain ⟨c, hc, rfl⟩ := hq
    have hjl : j < cs.length := (List.getElem?_eq_some_iff.1 hc).1
    have htj : b.leaves[j]? = some (b.leaves[j]'(by omega)) := List.getElem?_eq_getElem (by omega)
    have hlj : l[j]? = some (l[j]'(by omega)) := List.getElem?_eq_getElem (by omega)
    generalize l[j]'(by omega) = p at hlj
    obtain ⟨x, o⟩ := p
    exact ⟨x, o, _, c, hlj, rfl, by rw [List.getElem?_map, hlj]; rfl, t3 j c _ x o htj hc hlj⟩
  have hencl : (encL ρ cs).length = b.n := by rw [encL_map, List.length_map]; exact hcl
  have hgost : ∀ {t0 : Ty} {c : SC} {x : At} {o : Option Nat} {u : Value} {w2 : World}, Taken st st.nr t0 c x o → CRep w g (c.enc ρ) u → CRep w2 g1 (c.enc ρ) u := fun {t0 c x o u w2} ht hu => by
    have hpl := ht.plain hi
    cases ht with
    | nil e b => simp only [SC.enc] at hu ⊢; cases hu; exact .nil
    | own e b r x nl hr hf ht hne hx =>
      simp only [SC.enc] at hu ⊢
      exact .hd _ _ ((hd_eq hu).trans (n3 (r, []) (rk_lt (fun e0 => by rw [hr] at e0; cases e0))).symm)
    | sc t x hs ht =>
      rcases hpl with ⟨k, z, h⟩ | ⟨b, h⟩ | h | ⟨l, h⟩
      · rw [h] at hu ⊢; cases hu; exact .int _ _
      · rw [h] at hu ⊢; cases hu; exact .bool _
      · rw [h] at hu ⊢; cases hu; exact .nil
      · simp only [SC.enc, V.c] at h; split at h <;> cases h
  have hrw : RowRep X.P (w.alloc (.cells csA e)) g1 (st.nr, []) (.row false true e [encL ρ cs]) := by
    refine list_row (cap := 1) (f := fun _ k => csA.getD k undef) (by simpa using n1) n2 (Nat.le_refl _) (by simp only [maxLen]; omega) (by omega) (by rw [hcsz, hbn]; omega) (fun i c hc => ?_) (fun _ e0 => by cases e0) (fun i c k q hc hq => ?_)
    · cases i with
      | zero => cases hc; rw [hencl, hbn]
      | succ i => cases hc
    · cases i with
      | succ i => cases hc
      | zero =>
        cases hc
        obtain ⟨x, o, t0, c, g2, rfl, _, g4⟩ := hgy k q hq
        obtain ⟨u, hu, hr1, _⟩ := q2 k _ hq
        have hkl : k < b.n := by rw [← hencl]; exact (List.getElem?_eq_some_iff.1 hq).1
        have hck : csA[k]? = some u := by rw [hcells k hkl]; exact hu
        have hcd : csA.getD k undef = u := by rw [Array.getD_eq_getD_getElem?, hck]; rfl
        refine ⟨by rw [Nat.zero_mul, Nat.zero_add, hcd]; exact hck, ?_⟩
        rw [hcd]
        exact hgost g4 hr1
  let src : Nat → Nat → Option Loc := fun i j => if i = 0 then ((l[j]?).bind (·.2)).map (fun r2 => (r2, [])) else none
  have hsrcIn : ∀ (j : Nat) (x : At) (o : Option Nat), l[j]? = some (x, o) → src 0 j = o.map fun r => (r, []) := fun j x o h => by simp only [src, if_true, h]; rfl
  have hsrcCase : ∀ (i j : Nat) (l0 : Loc), src i j = some l0 → i = 0 ∧ ∃ x r2, l[j]? = some (x, some r2) ∧ l0 = (r2, []) := fun i j l0 h => by
    simp only [src] at h
    split at h
    · rename_i h0
      rw [Option.map_eq_some_iff] at h
      obtain ⟨r2, h1, rfl⟩ := h
      rw [Option.bind_eq_some_iff] at h1
      obtain ⟨⟨x, o⟩, h2, h3⟩ := h1
      simp only at h3
      subst h3
      exact ⟨h0, x, r2, h2, rfl⟩
    · cases h
  have hone : ∀ (i : Nat) (y2 : b.den), ([y0] : List b.den)[i]? = some y2 → i = 0 ∧ y2 = y0 := fun i y2 h => by
    cases i with
    | zero => cases h; exact ⟨rfl, rfl⟩
    | succ i => cases h
  refine Exists.elim (h3.regroup (R0 := st.nr) (e := e) (b := b) (v := st.ref) (nl := true) (xs := [y0]) (els := [encL ρ cs]) src (by rw [ref_get hi.len]; exact V.as_self _ _) hf f5 f6 (fun r2 hr2 => ?_) (fun i1 j1 i2 j2 l0 h1 h2 => ?_) (fun i2 j h => ?_) (.inl hd3) (fun r' e0 => by rw [hd3] at e0; cases e0) hrw rfl (fun i2 c y2 hc hy2 => ?_) (fun i2 y2 j V row hy2 hV hVr => ?_)) (fun g' hg' => ⟨g', hg'.1⟩)
  · obtain ⟨p1, p2⟩ := f7 r2 hr2
    refine ⟨p1, fun i2 j p h => ?_⟩
    obtain ⟨_, x, r3, h1, h2⟩ := hsrcCase i2 j _ h
    cases h2; exact p2 (mem_takenOf h1)
  · obtain ⟨a1, x, r3, a4, a5⟩ := hsrcCase _ _ _ h1
    obtain ⟨b1, x', r3', b4, b5⟩ := hsrcCase _ _ _ h2
    rw [a5] at b5; cases b5
    rw [a1, b1, takenOf_inj f1 a4 b4]
  · obtain ⟨_, x, r3, h1, h2⟩ := hsrcCase _ _ _ h
    cases h2
    have : (takenOf l).contains st.nr = true := by simpa using mem_takenOf h1
    rw [this] at f2; cases f2
  · obtain ⟨rfl, rfl⟩ := hone i2 y2 hy2
    cases hc
    refine ⟨hencl, fun j q V u hq hV hu => ?_⟩
    obtain ⟨x, o, t0, c, g2, rfl, g3, g4⟩ := hgy j q hq
    rw [hleafs, g3] at hV
    cases hV
    rw [hsrcIn j x o g2]
    exact g4.fit hi.typ hu
  · obtain ⟨rfl, rfl⟩ := hone i2 y2 hy2
    have hfl := leafRow_ty hf hV
    have hrr : Row.Rel (fun _ _ => False) (fun _ _ => False) row row := leafRow_flat hVr hfl
    have hjl : j < (encL ρ cs).length := by rw [hencl, ← leafs_length b y2]; exact (List.getElem?_eq_some_iff.1 hV).1
    obtain ⟨x, o, t0, c, g2, _, g3, g4⟩ := hgy j _ (List.getElem?_eq_getElem hjl)
    rw [hleafs, g3] at hV
    cases hV
    rw [hsrcIn j x o g2]
    cases g4 with
    | nil e' b2 =>
      simp only [Option.map_none]
      simp only [At.get, Ty.dflt, leafRow, List.map_nil, Option.some.injEq] at hVr
      exact ⟨e', hVr.symm⟩
    | own e' b2 r2 x nl2 hr2 hf2 ht2 hne2 hx2 =>
      simp only [Option.map_some]
      have hlt2 : r2 < st.nr := rk_lt (fun e0 => by rw [hr2] at e0; cases e0)
      exact (list_leaf hi hr2 hf2 ht2 hVr).rel (ml := fun _ _ => False) (mr := fun _ _ => False) (fun _ _ h => h.elim) (fun _ _ h => h.elim) (n3 _ hlt2) (fun b0 hb0 => n4 b0 _ hb0) hrr
    | sc t0 x hs ht =>
      have hty := At.ty_get hi.typ ht
      cases t0 with
      | int kd => rw [V.int_of hty] at hVr; cases hVr
      | bool => rw [V.bool_of hty] at hVr; cases hVr
      | _ => cases hs
theorem buildSlice'_ok {m : Nat} {parts : Array (Nat × Operand)} (hN : d < X.N) (h : stepBuildSlice' X.P st d t m parts.toList = .ok s) : WStep X D Γ nr st ⟨some d, .buildSlice t m parts, ty, ps, af, gd⟩ s := by
  unfold stepBuildSlice' at h
  split at h
  · rename_i e he
    split at h
    · rename_i b hb
      split at h
      · rename_i hc
        obtain ⟨rfl, _⟩ := hc
        have : ∃ o, parts.toList = [(0, o)] := by
          unfold buildNest at h
          split at h
          · exact ⟨_, by assumption⟩
          · cases h
        obtain ⟨o, ho⟩ := this
        have hp : parts = #[(0, o)] := by
          have : parts = parts.toList.toArray := by simp
          rw [this, ho]
        subst hp
        exact buildNest_ok hN he h
      · exact buildSlice_ok hN h
    · cases h
  · cases h
theorem leaf_row_one (hi : TInv X D st ρ a w g) {r : Nat} {p : List (Nat × Nat)} {nl : Bool} {e : TypeId} {els : List (List C)} (h : RowRep X.P w g (r, p) (.row false nl e els)) : (g.hdr (r, p)).oneCell' = true := by
  cases h with
  | nil _ _ hd => rw [hd]; rfl
  | zero _ A hd => rw [hd]; rfl
  | full _ _ _ _ b base n cap cs f hf => rw [hf.hd]; rfl
theorem appNest_ok (hN : d < X.N) {r r3 : Nat} (h : appNest X.P st d t r r3 = .ok s) (hi : TInv X D st ρ a w g) (hw : st.wf = true) (hk : st.rok = true) {ρ' : Env} (hev : evalB Γ (s.es.map (·.1)) ρ = some ρ') (hx : a.eval x = g.hdr (r, [])) (hy : a.eval y = g.hdr (r3, [])) :
    (⟨some d, .call { callee := .builtin .append, args := #[x, y], argTypes := #[t, t] }, ty, ps, af, gd⟩ : Oper).wp X.P a w (fun a' w' => (g.hdr (r, []) = .slice none 0 0 → RelD D w w') ∧ ∃ g', TInv X D s.st ρ' a' w' g') (fun _ _ _ => False) := by
  unfold appNest at h
  split at h
  case h_2 => cases h
  rename_i e e1 b v nl e3 b3 v3 nl3 he hr hr3
  simp only at h
  generalize hst4 : ((((st.bind (.sl e b)).kill true r).setR r .dead).strike [r3]).put d (.c (.h r)) = st4 at h
  by_cases hc : (e1 = e ∧ e3 = e ∧ b3 = b ∧ b.flat1 = true ∧ v.ty st.ts = some (.sl e b) ∧ v3.ty st.ts = some (.sl e b) ∧ (!st.fix.contains r) = true ∧ (!st.fix.contains r3) = true ∧ b.n = szOf X.P e ∧ 0 < b.n ∧ 0 < bytesOf X.P e ∧ zeroN X.P e = some b.n ∧ st4.freed r [r3] = true ∧ st4.nr = st.nr ∧ st.dirty.isEmpty = true)
  case neg => rw [if_pos hc] at h; cases h
  rw [if_neg (fun hh => hh hc)] at h
  simp only [Except.ok.injEq] at h
  subst h
  obtain ⟨rfl, rfl, rfl, hf, hvt, hvt3, hfix, hfix3, hbn, h0, hby0, hz, hfr, hnr4, hdty⟩ := hc
  have hfix : st.fix.contains r = false := by simpa using hfix
  have hdty : st.dirty = [] := by simpa using hdty
  obtain ⟨f1, f2, f3, f4, f5, f6, f7⟩ := freed_spec hfr
  have hne : r3 ≠ r := fun e0 => by subst e0; simp at f2
  obtain ⟨ti, z, hinfo, hzero, hzs⟩ := zeroN_spec hz
  have hu := elem_under he
  have hrow := row_of hi hr
  have hrow3 := row_of hi hr3
  have hvg := V.list_of (At.ty_get hi.typ hvt)
  have hvg3 := V.list_of (At.ty_get hi.typ hvt3)
  have hsub : ∀ (i j : Nat) (y2 : b3.den) (row : Row), ((v.get ρ).as (.sl e3 b3) : List b3.den)[i]? = some y2 → subRow 0 b3 y2 j = some row → RowRep X.P w g (r, [(i, j)]) row := fun i j y2 row h1 h2 =>
    hi.inv.row (r, [(i, j)]) row (by simp only [hr, RK.rows, h1]; exact h2)
  have hsub3 : ∀ (i j : Nat) (y2 : b3.den) (row : Row), ((v3.get ρ).as (.sl e3 b3) : List b3.den)[i]? = some y2 → subRow 0 b3 y2 j = some row → RowRep X.P w g (r3, [(i, j)]) row := fun i j y2 row h1 h2 =>
    hi.inv.row (r3, [(i, j)]) row (by simp only [hr3, RK.rows, h1]; exact h2)
  generalize hxs : (v.get ρ).as (.sl e3 b3) = xs at hrow hsub hvg
  generalize hys : (v3.get ρ).as (.sl e3 b3) = ys at hrow3 hsub3 hvg3
  obtain ⟨v', hv', rfl⟩ := evalB_one hev
  simp only [Ex.den1, Ex.den, hvg, hvg3, V.as_self, Option.bind_eq_some_iff, Option.some.injEq] at hv'
  obtain ⟨zs, hzs', rfl⟩ := hv'
  obtain ⟨fit1, fit2, rfl⟩ := gapp_ok hzs'
  have hE : ∀ {r : Nat} {xs : List b3.den} (i : Nat) (c : List C), (xs.mapIdx fun i y => encIn none r i b3 y)[i]? = some c → ∃ y2, xs[i]? = some y2 ∧ c = encE r i 0 b3 y2 := fun {r xs} i c hc => by
    rw [List.getElem?_mapIdx, Option.map_eq_some_iff] at hc
    obtain ⟨y2, hy2, rfl⟩ := hc
    exact ⟨y2, hy2, rfl⟩
  have hsE : ∀ {r : Nat} {xs : List b3.den} (i : Nat) (c : List C), (xs.mapIdx fun i y => encIn none r i b3 y)[i]? = some c → c.length = szOf X.P e3 := fun {r xs} i c hc => by
    obtain ⟨y2, _, rfl⟩ := hE i c hc
    rw [encE_length, hbn]
  have hl1 : (xs.mapIdx fun i y => encIn none r i b3 y).length = xs.length := by simp
  have hl3 : (ys.mapIdx fun i y => encIn none r3 i b3 y).length = ys.length := by simp
  obtain ⟨A, cap2, fn, hyv, hcells, hreps⟩ := ro_view (row_ro hrow3) hsE
  have hone : ∀ (i : Nat) (c : List C) (k : Nat) (q : C), (ys.mapIdx fun i y => encIn none r3 i b3 y)[i]? = some c → c[k]? = some q → (fn i k).oneCell' = true := fun i c k q h1 h2 => by
    obtain ⟨y2, hy2, rfl⟩ := hE i c h1
    have hq := hreps i _ k q h1 h2
    rw [encE_leaf, Nat.zero_add, Option.map_eq_some_iff] at h2
    obtain ⟨V, hV, rfl⟩ := h2
    rcases flat1_leaf b3 y2 k V hf hV with ⟨kd, z, rfl⟩ | ⟨bv, rfl⟩ | ⟨e', a', zs', rfl, _⟩
    · generalize fn i k = u at hq; cases hq; rfl
    · generalize fn i k = u at hq; cases hq; rfl
    · simp only [leafC] at hq
      rw [hd_eq hq]
      have := subRow_leaf b3 0 y2 k
      rw [Nat.zero_add, hV] at this
      exact leaf_row_one hi (hsub3 i k y2 _ hy2 this)
  obtain ⟨v', w', g1, hrun, hA, hrw⟩ := append_core (t := t) (ty := ty) (A := A) (cap2 := cap2) (fn := fn) hi.inv.ok hrow hu hinfo hzero (by rw [hzs, hbn]) (by omega) hsE hsE (by simp only [hl1, hl3, gfit, decide_eq_true_eq]; exact ⟨fit1, fit2⟩) hby0 hcells (fun i c k q h1 h2 => ⟨hreps i c k q h1 h2, hone i c k q h1 h2⟩)
    (fun i c k q h1 h2 => by obtain ⟨y2, _, rfl⟩ := hE i c h1; exact encE_ok (fun k e0 => by cases e0) b3 0 y2 k q h2) (fun i c k q h1 h2 => by obtain ⟨y2, _, rfl⟩ := hE i c h1; exact encE_ok (fun k e0 => by cases e0) b3 0 y2 k q h2)
  have hexec : (execOp a.eval ⟨some d, .call { callee := .builtin .append, args := #[x, y], argTypes := #[t, t] }, ty, ps, af, gd⟩).run X.P w = .ok (.value v') w' := by
    have hyv2 : a.eval y = .slice A (ys.mapIdx fun i y => encIn none r3 i b3 y).length cap2 := hy.trans hyv
    simp only [execOp, resolve, invoke, builtin, Sem.run_bind, Sem.run_pure, Result.andThen_ok, List.map_toArray, List.map_cons, List.map_nil, hx, hyv2, hrun]
  unfold Oper.wp
  rw [hexec]
  refine ⟨fun hnil => ⟨hA.size, fun b0 hb0 _ => hA.new hnil b0 hb0⟩, ?_⟩
  have hi2 := hi.bindOne hw (v := ⟨.sl e3 b3, xs ++ ys⟩) rfl
  have S : Stab (st.bind (.sl e3 b3)).nr true r w g w' g1 := ⟨fun l h1 h2 h3 => hA.hdr l (fun e0 => by subst e0; rcases h1 with h1 | h1; cases h1; exact h1 rfl), fun rg hne2 _ b0 hb0 => by
    cases rg with
    | none =>
      have hS : g.S b0 := hb0
      exact ⟨by show g1.S b0; rw [hA.S]; exact hS, hA.keep b0 (hi.inv.ok.S b0 hS).1 fun ho => (hi.inv.ok.own b0 _ ho).2.2 hS⟩
    | some r' =>
      rcases hb0 with hS | ⟨q, ho⟩
      · exact ⟨.inl (by rw [hA.S]; exact hS), hA.keep b0 (hi.inv.ok.S b0 hS).1 fun ho => (hi.inv.ok.own b0 _ ho).2.2 hS⟩
      · exact ⟨.inr ⟨q, hA.own _ _ ho⟩, hA.keep b0 (hi.inv.ok.own b0 _ ho).2.1 fun ho2 => by rw [ho] at ho2; cases ho2; exact hne2 rfl⟩⟩
  have hm : TInv X D { (((st.bind (.sl e3 b3)).kill true r).setR r .dead) with dirty := st.dirty } (ρ ++ [⟨.sl e3 b3, xs ++ ys⟩]) a w' g1 :=
    hi2.mut (rok_bind hk _) S hA.ok .dead (fun p row hp => by rw [rows_dead] at hp; cases hp) (fun _ => hfix) (fun b0 l hl ho => ⟨hA.own _ _ ho, hA.keep b0 (hi.inv.ok.own b0 _ ho).2.1 fun ho2 => by rw [ho] at ho2; cases ho2; exact hl rfl⟩) st.dirty
      ⟨fun b0 hb0 => absurd hb0 (noD hi hdty b0), fun r0 b0 q hq => by rw [hdty] at hq; cases hq⟩
  have h3 := TInv.put (strike_ok [r3] hm) hN (sv := .c (.h r)) (v := v') (.hd _ _ hA.top.symm)
  have e4 : (({ (((st.bind (.sl e3 b3)).kill true r).setR r .dead) with dirty := st.dirty } : St).strike [r3]).put d (.c (.h r)) = st4 := hst4
  rw [e4] at h3
  have hd4 : st4.dirty = [] := by
    rw [← hst4]
    have h1 : (((((st.bind (.sl e3 b3)).kill true r).setR r .dead).strike [r3]).put d (.c (.h r))).dirty = st.dirty := killR_dirty _ _
    rw [h1]; exact hdty
  have hval : ((At.r ⟨st.nx, []⟩).get (ρ ++ [⟨.sl e3 b3, xs ++ ys⟩])).as (.sl e3 b3) = xs ++ ys := by
    have h2 : (At.r ⟨st.nx, []⟩).get (ρ ++ [⟨.sl e3 b3, xs ++ ys⟩]) = ⟨.sl e3 b3, xs ++ ys⟩ := ref_get hi.len
    rw [h2]; exact V.as_self _ _
  let src : Nat → Nat → Option Loc := fun i j => if i < xs.length then some (r, [(i, j)]) else some (r3, [(i - xs.length, j)])
  have sOk : ∀ i j l0, src i j = some l0 → (i < xs.length ∧ l0 = (r, [(i, j)])) ∨ (xs.length ≤ i ∧ l0 = (r3, [(i - xs.length, j)])) := fun i j l0 h => by
    simp only [src] at h
    split at h
    · rename_i hlt; cases h; exact .inl ⟨hlt, rfl⟩
    · rename_i hge; cases h; exact .inr ⟨by omega, rfl⟩
  refine Exists.elim (h3.regroup (R0 := r) (e := e3) (b := b3) (v := .r ⟨st.nx, []⟩) (nl := nl) (xs := xs ++ ys) (els := _) src hval hf f5 f6 (fun r2 hr2 => ?_) (fun i1 j1 i2 j2 l0 h1 h2 => ?_) (fun i2 j h => ?_) (.inl hd4) (fun r' e0 => by rw [hd4] at e0; cases e0) hrw (by simp) (fun i c y2 hc hy2 => ?_) (fun i y2 j V row hy2 hV hVr => ?_)) (fun g' hg' => ⟨g', hg'.1⟩)
  · obtain ⟨p1, p2⟩ := f7 r2 hr2
    refine ⟨p1, fun i2 j p h => ?_⟩
    rcases sOk _ _ _ h with ⟨_, h⟩ | ⟨_, h⟩ <;> cases h
    · exact p1 rfl
    · exact p2 (by simp)
  · rcases sOk _ _ _ h1 with ⟨a1, a2⟩ | ⟨a1, a2⟩ <;> rcases sOk _ _ _ h2 with ⟨b1, b2⟩ | ⟨b1, b2⟩ <;> rw [a2] at b2
    · cases b2; rfl
    · simp only [Prod.mk.injEq] at b2; exact absurd b2.1 (Ne.symm hne)
    · simp only [Prod.mk.injEq] at b2; exact absurd b2.1 hne
    · simp only [Prod.mk.injEq, List.cons.injEq, true_and, and_true] at b2
      rw [b2.2, show i1 = i2 from by omega]
  · rcases sOk _ _ _ h with ⟨_, h⟩ | ⟨_, h⟩ <;> cases h
  · rw [List.getElem?_append] at hc hy2
    rw [hl1] at hc
    split at hc
    · rename_i hlt
      rw [if_pos hlt] at hy2
      obtain ⟨y3, hy3, rfl⟩ := hE i c hc
      rw [hy2] at hy3; cases hy3
      refine ⟨encE_length _ _ _ _ _, fun j q V u hq hV hu => ?_⟩
      rw [encE_leaf, hV, Nat.zero_add] at hq
      cases hq
      have : src i j = some (r, [(i, j)]) := by simp only [src]; rw [if_pos hlt]
      rw [this]
      exact leafC_fit hf hV hu
    · rename_i hlt
      rw [if_neg hlt] at hy2
      obtain ⟨y3, hy3, rfl⟩ := hE _ c hc
      rw [hy2] at hy3; cases hy3
      refine ⟨encE_length _ _ _ _ _, fun j q V u hq hV hu => ?_⟩
      rw [encE_leaf, hV, Nat.zero_add] at hq
      cases hq
      have : src i j = some (r3, [(i - xs.length, j)]) := by simp only [src]; rw [if_neg hlt]
      rw [this]
      exact leafC_fit hf hV hu
  · have hrr : Row.Rel (fun _ _ => False) (fun _ _ => False) row row := leafRow_flat hVr (leafRow_ty hf hV)
    have hsr : subRow 0 b3 y2 j = some row := by
      have := subRow_leaf b3 0 y2 j
      rw [Nat.zero_add, hV] at this
      rw [this]; exact hVr
    have go : ∀ l0 : Loc, l0 ≠ (r, []) → RowRep X.P w g l0 row → RowRep X.P w' g1 l0 row := fun l0 hl0 h => h.rel (ml := fun _ _ => False) (mr := fun _ _ => False) (fun _ _ h => h.elim) (fun _ _ h => h.elim) (hA.hdr l0 hl0) (fun b0 hb0 => ⟨hA.own _ _ hb0, hA.keep b0 (hi.inv.ok.own b0 _ hb0).2.1 fun ho2 => by rw [hb0] at ho2; cases ho2; exact hl0 rfl⟩) hrr
    rw [List.getElem?_append] at hy2
    split at hy2
    · rename_i hlt
      have : src i j = some (r, [(i, j)]) := by simp only [src]; rw [if_pos hlt]
      rw [this]
      exact go _ (fun e0 => by cases e0) (hsub i j y2 row hy2 hsr)
    · rename_i hlt
      have : src i j = some (r3, [(i - xs.length, j)]) := by simp only [src]; rw [if_neg hlt]
      rw [this]
      exact go _ (fun e0 => by cases e0) (hsub3 _ j y2 row hy2 hsr)
theorem enc_one {w : World} {g : G} {rg : Rg} : ∀ (t : Ty) (x : t.den) (k : Nat) (q : C) (u : Value), t.nomap = true → (enc rg t x)[k]? = some q → CRep w g q u → u.oneCell' = true := by
  intro t
  induction t with
  | int kd => intro x k q u _ h hq; cases k with
    | zero => simp only [enc] at h; cases h; cases hq; rfl
    | succ k => simp [enc] at h
  | bool => intro x k q u _ h hq; cases k with
    | zero => simp only [enc] at h; cases h; cases hq; rfl
    | succ k => simp [enc] at h
  | unit => intro x k q u _ h; simp [enc] at h
  | mp => intro x k q u hm; simp [Ty.nomap] at hm
  | pr a b iha ihb =>
    intro x k q u hm h hq
    simp only [Ty.nomap, Bool.and_eq_true] at hm
    simp only [enc, List.getElem?_append] at h
    split at h
    · exact iha _ _ _ _ hm.1 h hq
    · exact ihb _ _ _ _ hm.2 h hq
  | sl e a iha =>
    intro x k q u _ h hq
    cases k with
    | zero => simp only [enc] at h; cases h; exact ro_one hq
    | succ k => simp [enc] at h
theorem mapIdx_map {α β : Type} (f : α → β) (xs : List α) : (xs.mapIdx fun _ y => f y) = xs.map f := List.ext_getElem? fun i => by rw [List.getElem?_mapIdx, List.getElem?_map]
theorem appShare_ok (hN : d < X.N) {r r1 : Nat} {v2 : At} (h : appShare X.P st d t r r1 v2 = .ok s) (hi : TInv X D st ρ a w g) (hw : st.wf = true) (hk : st.rok = true) {ρ' : Env} (hev : evalB Γ (s.es.map (·.1)) ρ = some ρ') (hx : a.eval x = g.hdr (r, [])) (hy : CRep w g (.ro (some r1) ((v2.get ρ).els (some r1))) (a.eval y)) :
    (⟨some d, .call { callee := .builtin .append, args := #[x, y], argTypes := #[t, t] }, ty, ps, af, gd⟩ : Oper).wp X.P a w (fun a' w' => (g.hdr (r, []) = .slice none 0 0 → RelD D w w') ∧ ∃ g', TInv X D s.st ρ' a' w' g') (fun _ _ _ => False) := by
  unfold appShare at h
  split at h
  case h_2 => cases h
  rename_i e e1 b v nl inner he hr
  by_cases hc : (innOk r1 v (.sl e b) inner = true ∧ r ≠ r1 ∧ e1 = e ∧ b.nomap = true ∧ (!st.fix.contains r) = true ∧ v.ty st.ts = some (.sl e b) ∧ v2.ty st.ts = some (.sl e b) ∧ b.n = szOf X.P e ∧ 0 < b.n ∧ 0 < bytesOf X.P e ∧ zeroN X.P e = some b.n ∧ st.dirty.isEmpty = true)
  case neg => rw [if_pos hc] at h; cases h
  rw [if_neg (fun hh => hh hc)] at h
  simp only [Except.ok.injEq] at h
  subst h
  obtain ⟨hinn, hne, rfl, hf, hfix, hvt, hvt2, hbn, h0, hby0, hz, hdty⟩ := hc
  have hfix : st.fix.contains r = false := by simpa using hfix
  have hdty : st.dirty = [] := by simpa using hdty
  obtain ⟨ti, z, hinfo, hzero, hzs⟩ := zeroN_spec hz
  have hu := elem_under he
  have hrow := row_of hi hr
  have hvg := V.list_of (At.ty_get hi.typ hvt)
  have hvg2 := V.list_of (At.ty_get hi.typ hvt2)
  have hrow' : RowRep X.P w g (r, []) (.row false nl e1 (((v.get ρ).as (.sl e1 b)).map (enc (some r1) b))) := by
    unfold innOk at hinn
    split at hinn
    · rename_i r2
      have := Nat.eq_of_beq_eq_true hinn
      subst this
      have e0 : (((v.get ρ).as (.sl e1 b) : List b.den).mapIdx fun i y => encIn (some (some r2)) r i b y) = ((v.get ρ).as (.sl e1 b)).map (enc (some r2) b) := by
        exact mapIdx_map _ _
      rw [e0] at hrow; exact hrow
    · have hv0 := of_decide_eq_true hinn
      subst hv0
      have e0 : (At.get ρ (.nil (.sl e1 b))).as (.sl e1 b) = ([] : List b.den) := by { show V.as (.sl e1 b) ⟨.sl e1 b, []⟩ = []; exact V.as_self _ _ }
      rw [e0] at hrow ⊢; exact hrow
    · cases hinn
  have hels : (v2.get ρ).els (some r1) = List.map (enc (some r1) b) ((v2.get ρ).as (.sl e1 b)) := by
    rw [hvg2]; simp only [V.els, V.as_self]
  rw [hels] at hy
  generalize hxs : (v.get ρ).as (.sl e1 b) = xs at hrow' hvg
  generalize hys : (v2.get ρ).as (.sl e1 b) = ys at hy hvg2
  obtain ⟨v', hv', rfl⟩ := evalB_one hev
  simp only [Ex.den1, Ex.den, hvg, hvg2, V.as_self, Option.bind_eq_some_iff, Option.some.injEq] at hv'
  obtain ⟨zs, hzs', rfl⟩ := hv'
  obtain ⟨fit1, fit2, rfl⟩ := gapp_ok hzs'
  have hE : ∀ {xs : List b.den} (i : Nat) (c : List C), (xs.map (enc (some r1) b))[i]? = some c → ∃ y2, c = enc (some r1) b y2 := fun {xs} i c hc => by
    rw [List.getElem?_map, Option.map_eq_some_iff] at hc
    obtain ⟨y2, _, rfl⟩ := hc
    exact ⟨y2, rfl⟩
  have hsE : ∀ {xs : List b.den} (i : Nat) (c : List C), (xs.map (enc (some r1) b))[i]? = some c → c.length = szOf X.P e1 := fun {xs} i c hc => by
    obtain ⟨y2, rfl⟩ := hE i c hc
    rw [enc_length, hbn]
  have hok : ∀ {xs : List b.den} (i : Nat) (c : List C) (k : Nat) (q : C), (xs.map (enc (some r1) b))[i]? = some c → c[k]? = some q → C.Ok (fun l => l ≠ (r, [])) (fun rg => rg ≠ some r) q := fun {xs} i c k q h1 h2 => by
    obtain ⟨y2, rfl⟩ := hE i c h1
    exact enc_ok (prr := fun rg => rg ≠ some r) (fun e0 => by cases e0; exact hne rfl) b y2 k q h2
  obtain ⟨A, cap2, fn, hyv, hcells, hreps⟩ := ro_view hy hsE
  obtain ⟨v', w', g1, hrun, hA, hrw⟩ := append_core (t := t) (ty := ty) (A := A) (cap2 := cap2) (fn := fn) hi.inv.ok hrow' hu hinfo hzero (by rw [hzs, hbn]) (by omega) hsE hsE (by simp only [List.length_map, gfit, decide_eq_true_eq]; exact ⟨fit1, fit2⟩) hby0 hcells (fun i c k q h1 h2 => ⟨hreps i c k q h1 h2, by
    obtain ⟨y2, rfl⟩ := hE i c h1
    exact enc_one b y2 k q _ hf h2 (hreps i _ k q h1 h2)⟩) hok hok
  have hexec : (execOp a.eval ⟨some d, .call { callee := .builtin .append, args := #[x, y], argTypes := #[t, t] }, ty, ps, af, gd⟩).run X.P w = .ok (.value v') w' := by
    simp only [execOp, resolve, invoke, builtin, Sem.run_bind, Sem.run_pure, Result.andThen_ok, List.map_toArray, List.map_cons, List.map_nil, hx, hyv, hrun]
  unfold Oper.wp
  rw [hexec]
  refine ⟨fun hnil => ⟨hA.size, fun b0 hb0 _ => hA.new hnil b0 hb0⟩, ?_⟩
  have hi2 := hi.bindOne hw (v := ⟨.sl e1 b, xs ++ ys⟩) rfl
  have S : Stab (st.bind (.sl e1 b)).nr true r w g w' g1 := ⟨fun l h1 h2 h3 => hA.hdr l (fun e0 => by subst e0; rcases h1 with h1 | h1; cases h1; exact h1 rfl), fun rg hne2 _ b0 hb0 => by
    cases rg with
    | none =>
      have hS : g.S b0 := hb0
      exact ⟨by show g1.S b0; rw [hA.S]; exact hS, hA.keep b0 (hi.inv.ok.S b0 hS).1 fun ho => (hi.inv.ok.own b0 _ ho).2.2 hS⟩
    | some r' =>
      rcases hb0 with hS | ⟨q, ho⟩
      · exact ⟨.inl (by rw [hA.S]; exact hS), hA.keep b0 (hi.inv.ok.S b0 hS).1 fun ho => (hi.inv.ok.own b0 _ ho).2.2 hS⟩
      · exact ⟨.inr ⟨q, hA.own _ _ ho⟩, hA.keep b0 (hi.inv.ok.own b0 _ ho).2.1 fun ho2 => by rw [ho] at ho2; cases ho2; exact hne2 rfl⟩⟩
  have hval : ((At.r ⟨st.nx, []⟩).get (ρ ++ [⟨.sl e1 b, xs ++ ys⟩])).as (.sl e1 b) = xs ++ ys := by
    have h2 : (At.r ⟨st.nx, []⟩).get (ρ ++ [⟨.sl e1 b, xs ++ ys⟩]) = ⟨.sl e1 b, xs ++ ys⟩ := ref_get hi.len
    rw [h2]; exact V.as_self _ _
  have hm : TInv X D { (((st.bind (.sl e1 b)).kill true r).setR r (.list e1 b (.r ⟨st.nx, []⟩) nl (some (some r1)))) with dirty := st.dirty } (ρ ++ [⟨.sl e1 b, xs ++ ys⟩]) a w' g1 :=
    hi2.mut (rok_bind hk _) S hA.ok (.list e1 b (.r ⟨st.nx, []⟩) nl (some (some r1))) (fun p row hp => by
      cases p with
      | nil =>
        rw [rows_nil_list, hval] at hp
        have e0 : ((xs ++ ys : List b.den).mapIdx fun i y => encIn (some (some r1)) r i b y) = xs.map (enc (some r1) b) ++ ys.map (enc (some r1) b) := by
          rw [← List.map_append]
          exact mapIdx_map _ _
        rw [e0] at hp
        cases hp; exact hrw
      | cons q p =>
        obtain ⟨e0, _⟩ := rows_cons_list hp
        cases e0) (fun _ => hfix) (fun b0 l hl ho => ⟨hA.own _ _ ho, hA.keep b0 (hi.inv.ok.own b0 _ ho).2.1 fun ho2 => by rw [ho] at ho2; cases ho2; exact hl rfl⟩) st.dirty
      ⟨fun b0 hb0 => absurd hb0 (noD hi hdty b0), fun r0 b0 q hq => by rw [hdty] at hq; cases hq⟩
  exact ⟨g1, TInv.put hm hN (sv := .c (.h r)) (v := v') (.hd _ _ hA.top.symm)⟩
theorem stepAppNest_ok (hN : d < X.N) {sx sy : SV} (hsx : st.val x = .ok sx) (hsy : st.val y = .ok sy) (h : stepAppNest X.P st d t sx sy = .ok s) (hnr : nr = true → sx.isNil = true) :
    WStep X D Γ nr st ⟨some d, .call { callee := .builtin .append, args := #[x, y], argTypes := #[t, t] }, ty, ps, af, gd⟩ s := by
  intro ρ ρ' a w g hi hw hk hev
  have hxr := val_rep hi hsx
  have hyr := val_rep hi hsy
  unfold stepAppNest at h
  split at h
  · rename_i r3
    have hy : a.eval y = g.hdr (r3, []) := by
      have : CRep w g (.hd (r3, [])) (a.eval y) := by simpa [SV.enc, SC.enc, PRep] using hyr
      exact hd_eq this
    split at h
    · rename_i e he
      split at h
      · rename_i b hb
        by_cases hc : ((adoptNew st e b).wf && (adoptNew st e b).rok) = true
        · rw [if_neg (fun hh => by rw [hc] at hh; cases hh)] at h
          simp only [Bool.and_eq_true] at hc
          obtain ⟨g', hi', q1, q2, _⟩ := hi.adoptNew (e := e) (b := b) (nl := true) hk
          have hx : a.eval x = .slice none 0 0 := by
            have hxr : CRep w g .nil (a.eval x) := by simpa [SV.enc, SC.enc, PRep] using hxr
            generalize a.eval x = u at hxr
            cases hxr; rfl
          have hr3 : r3 ≠ st.nr := fun e0 => by
            unfold appNest at h
            split at h
            · subst e0
              simp only at h
              split at h
              · cases h
              · rename_i hcc
                have hcc := Decidable.of_not_not hcc
                obtain ⟨_, _, _, _, _, _, _, _, _, _, _, _, hfr, _⟩ := hcc
                have := (freed_spec hfr).2.1
                simp at this
            · cases h
          refine Oper.wp_mono (fun a' w' q => ⟨fun _ => q.1 q1, q.2⟩) (appNest_ok (st := adoptNew st e b) hN h hi' hc.1 hc.2 hev (hx.trans q1.symm) (hy.trans (q2 (r3, []) hr3).symm))
        · rw [if_pos (by rw [Bool.eq_false_iff.2 hc]; rfl)] at h; cases h
      · cases h
    · cases h
  · rename_i r r3
    have hx : a.eval x = g.hdr (r, []) := by
      have : CRep w g (.hd (r, [])) (a.eval x) := by simpa [SV.enc, SC.enc, PRep] using hxr
      exact hd_eq this
    have hy : a.eval y = g.hdr (r3, []) := by
      have : CRep w g (.hd (r3, [])) (a.eval y) := by simpa [SV.enc, SC.enc, PRep] using hyr
      exact hd_eq this
    refine Oper.wp_mono (fun a' w' q => ⟨fun hn => ?_, q.2⟩) (appNest_ok hN h hi hw hk hev hx hy)
    have := hnr hn
    simp [SV.isNil] at this
  · rename_i r r1 lo hi' v2
    have hx : a.eval x = g.hdr (r, []) := by
      have : CRep w g (.hd (r, [])) (a.eval x) := by simpa [SV.enc, SC.enc, PRep] using hxr
      exact hd_eq this
    have hy : CRep w g (.ro (some r1) ((v2.get ρ).els (some r1))) (a.eval y) := by
      have h1 : CRep w g (SC.enc ρ (.hs r1 lo hi' v2)) (a.eval y) := by simpa [SV.enc, PRep] using hyr
      simp only [SC.enc] at h1
      exact both_r h1
    refine Oper.wp_mono (fun a' w' q => ⟨fun hn => ?_, q.2⟩) (appShare_ok hN h hi hw hk hev hx hy)
    have := hnr hn
    simp [SV.isNil] at this
  · cases h
end
end Go.Pu
/-
  Own work. Calls, from the operation: nil slices and inner slices handed over.
-/
namespace Go.Pu
open Go Go.RowKit
set_option linter.unusedVariables false
set_option linter.unusedSectionVars false

section
variable {X : Ctx} {D : Nat → Prop} {Γ : List FE} {ss : List Sig} {st : St} {ρ : Env} {a : Act} {w w' : World} {g g' : G}
variable {d : Nat} {x y : Operand} {t t' ty : TypeId} {ps : String} {af : Array Edge} {gd : Option (Nat × Bool)} {s : Step} {nr : Bool}
theorem putBack_ok (hi : TInv X D st ρ a w g) {r r2 : Nat} {es : List (Ex × Ty)} {st' : St} (h : st.putBack r r2 = .ok (es, st')) {ρ' : Env} (hev : evalB Γ (es.map (·.1)) ρ = some ρ')
    (hh : ∀ e b v nl i k, st.rk r = .listH e b v nl i k → g.hdr (r, [(i.nat ρ, k)]) = g.hdr (r2, [])) : ∃ g', TInv X D st' ρ' a w g' := by
  unfold St.putBack at h
  split at h
  case h_2 => cases h
  rename_i e b v nl i k e2 b2 x nl2 hr hr2
  split at h
  case h_2 => cases h
  rename_i e' b' hle
  simp only at h
  generalize hst5 : (((((st.bind b).bind b).bind (.sl e b)).kill false r).setR r .dead).strike [r2] = st5 at h
  by_cases hc : (e2 = e' ∧ b2 = b' ∧ b'.flat = true ∧ x.ty st.ts = some (.sl e' b') ∧ b.flat1 = true ∧ v.ty st.ts = some (.sl e b) ∧ i.lt st.ts.length = true ∧ st.wf = true ∧ st.rok = true ∧ st.dirty.isEmpty = true ∧ (!st.fix.contains r2) = true ∧ (!Nat.beq r2 r) = true ∧ st5.freed r [r2] = true ∧ st5.nr = st.nr)
  case neg => rw [if_pos hc] at h; cases h
  rw [if_neg (fun hh => hh hc)] at h
  simp only [Except.ok.injEq, Prod.mk.injEq] at h
  obtain ⟨rfl, rfl⟩ := h
  obtain ⟨rfl, rfl, hf2, hxt, hf, hvt, hil, hw, hk, hdty, hfix2, hne, hfr, hnr5⟩ := hc
  have hhd := hh _ _ _ _ _ _ hr
  have hne : r2 ≠ r := fun e0 => by subst e0; simp at hne
  have hfix2 : st.fix.contains r2 = false := by simpa using hfix2
  have hdty : st.dirty = [] := by simpa using hdty
  have hkn : k + 1 ≤ b.n := by
    have := (List.getElem?_eq_some_iff.1 hle).1
    rw [leaves_length] at this; omega
  have hct : b.cellTy k [SC.h r2].length = [.sl e2 b2] := by
    unfold Ty.cellTy
    apply List.ext_getElem?
    intro j
    rw [List.getElem?_take, List.getElem?_drop]
    cases j with
    | zero => simpa using hle
    | succ j => simp
  have hl : st.takeN r (b.cellTy k [SC.h r2].length) [SC.h r2] = .ok [(x, some r2)] := by
    rw [hct]
    have hb : Nat.beq r2 r = false := beqN hne
    simp only [St.takeN, hr2, hf2, hxt, hb, hfix2, Bool.not_false, and_self, if_true]
    rfl
  have hvg := V.list_of (At.ty_get hi.typ hvt)
  have hrow : RowRep X.P w g (r, []) (.row false nl e (((v.get ρ).as (.sl e b)).mapIdx fun i y => encE r i 0 b y)) := hi.inv.row (r, []) _ (by simp only [hr]; rfl)
  have hrowS : ∀ (i2 j : Nat) (y2 : b.den) (row : Row), ((v.get ρ).as (.sl e b) : List b.den)[i2]? = some y2 → subRow 0 b y2 j = some row → ¬ (i2 = i.nat ρ ∧ j = k) → RowRep X.P w g (r, [(i2, j)]) row := fun i2 j y2 row h1 h2 h3 => by
    refine hi.inv.row (r, [(i2, j)]) row ?_
    simp only [hr, RK.rows, h1]
    have hb : (Nat.beq i2 (i.nat ρ) && Nat.beq j k) = false := by
      cases hb : (Nat.beq i2 (i.nat ρ) && Nat.beq j k) with
      | false => rfl
      | true =>
        simp only [Bool.and_eq_true] at hb
        exact absurd ⟨Nat.eq_of_beq_eq_true hb.1, Nat.eq_of_beq_eq_true hb.2⟩ h3
    rw [hb]; exact h2
  have hleaf2 : ∀ row, leafRow (x.get ρ) = some row → RowRep X.P w g (r2, []) row := fun row h => list_leaf hi hr2 hf2 hxt h
  generalize hxs : (v.get ρ).as (.sl e b) = zs at hrow hrowS hvg
  obtain ⟨v1, hv1, hev⟩ := evalB_cons hev
  obtain ⟨v2, hv2, hev⟩ := evalB_cons hev
  obtain ⟨v3, hv3, hev⟩ := evalB_cons hev
  have := evalB_nil hev
  subst this
  simp only [Ex.den1, Ex.den, hvg, Option.bind_eq_some_iff, Option.some.injEq] at hv1
  obtain ⟨z, hz, rfl⟩ := hv1
  obtain ⟨z0, z1, z2⟩ := gget_ok hz
  have hnx : st.nx = ρ.length := by rw [hi.len]; rfl
  have hg1 : Ref.get (ρ ++ [⟨b, z⟩]) ⟨st.nx, []⟩ = ⟨b, z⟩ := by
    have : (st.ref).get (ρ ++ [⟨b, z⟩]) = ⟨b, z⟩ := ref_get hi.len
    exact this
  have hleafs := leafs_splice hi (ρ1 := [⟨b, z⟩]) hg1 hl hkn
  simp only [Ex.den1, Ex.den, Option.some.injEq] at hv2
  have e1 : ([(x, some r2)] : List (At × Option Nat)).map (·.1) = [x] := rfl
  rw [e1] at hleafs
  generalize hz2 : (mkv b ((splice (oldAtoms st.nx b) k [x]).map (At.get (ρ ++ [⟨b, z⟩])))).1 = zn at hv2 hleafs
  subst hv2
  have hva : At.get ((ρ ++ [⟨b, z⟩]) ++ [⟨b, zn⟩]) v = ⟨.sl e b, zs⟩ := by
    rw [List.append_assoc, At.get_app (by rw [hi.len]; exact At.ty_lt hvt)]; exact hvg
  have hia : At.get ((ρ ++ [⟨b, z⟩]) ++ [⟨b, zn⟩]) i = i.get ρ := by
    rw [List.append_assoc, At.get_app (by rw [hi.len]; exact hil)]
  have hna : At.get ((ρ ++ [⟨b, z⟩]) ++ [⟨b, zn⟩]) (.r ⟨st.nx + 1, []⟩) = ⟨b, zn⟩ := by
    simp only [At.get, Ref.get, V.proj, hnx]
    simp [List.getD]
  simp only [Ex.den1, Ex.den, hva, hia, hna, V.as_self, Option.some.injEq] at hv3
  subst hv3
  have hi3 : TInv X D (((st.bind b).bind b).bind (.sl e b)) (((ρ ++ [⟨b, z⟩]) ++ [⟨b, zn⟩]) ++ [⟨.sl e b, gset zs (i.get ρ).int zn⟩]) a w g := by
    have := hi.grow hw [⟨b, z⟩, ⟨b, zn⟩, ⟨.sl e b, gset zs (i.get ρ).int zn⟩]
    simpa [St.bind] using this
  have hset : gset zs (i.get ρ).int zn = zs.set (i.get ρ).int.toNat zn := rfl
  have hv3g : (At.get (((ρ ++ [⟨b, z⟩]) ++ [⟨b, zn⟩]) ++ [⟨.sl e b, gset zs (i.get ρ).int zn⟩]) (.r ⟨st.nx + 2, []⟩)).as (.sl e b) = gset zs (i.get ρ).int zn := by
    have : At.get (((ρ ++ [⟨b, z⟩]) ++ [⟨b, zn⟩]) ++ [⟨.sl e b, gset zs (i.get ρ).int zn⟩]) (.r ⟨st.nx + 2, []⟩) = ⟨.sl e b, gset zs (i.get ρ).int zn⟩ := by
      simp only [At.get, Ref.get, V.proj, hnx]
      simp [List.getD]
    rw [this]; exact V.as_self _ _
  rw [hset] at hv3g hi3 ⊢
  have hNe : i.nat ρ = (i.get ρ).int.toNat := rfl
  rw [hNe] at hrowS hhd
  generalize (i.get ρ).int.toNat = N at *
  have hNl : N < zs.length := (List.getElem?_eq_some_iff.1 z2).1
  have h5 := strike_ok [r2] (hi3.killDead (rok_bind (rok_bind (rok_bind hk _) _) _) (all := false) r (fun e => by cases e))
  rw [hst5] at h5
  have hd5 : st5.dirty = [] := by
    rw [← hst5]
    have h1 : ((((((st.bind b).bind b).bind (.sl e b)).kill false r).setR r .dead).strike [r2]).dirty = st.dirty := killR_dirty _ _
    rw [h1]; exact hdty
  obtain ⟨f1, f2, f3, f4, f5, f6, f7⟩ := freed_spec hfr
  have hgetE : ∀ (i2 : Nat) (c : List C), (zs.mapIdx fun i y => encE r i 0 b y)[i2]? = some c → ∃ y2, zs[i2]? = some y2 ∧ c = encE r i2 0 b y2 := fun i2 c hc => by
    rw [List.getElem?_mapIdx, Option.map_eq_some_iff] at hc
    obtain ⟨y2, hy2, rfl⟩ := hc
    exact ⟨y2, hy2, rfl⟩
  obtain ⟨V0, hV0, hV0t⟩ : ∃ V, (leafs b z)[k]? = some V ∧ V.t = .sl e2 b2 := by
    have hlt : k < (leafs b z).length := by rw [leafs_length]; omega
    refine ⟨_, List.getElem?_eq_getElem hlt, ?_⟩
    have h1 := leafs_ty b z
    have h2 : ((leafs b z).map V.t)[k]? = some (.sl e2 b2) := by rw [h1]; exact hle
    rw [List.getElem?_map, List.getElem?_eq_getElem hlt] at h2
    simpa using h2
  have hxg : (x.get ρ).t = .sl e2 b2 := At.ty_get hi.typ hxt
  have hlk : ∀ (j : Nat) (V : V), (leafs b zn)[j]? = some V → (j = k ∧ V = x.get ρ) ∨ (j ≠ k ∧ (leafs b z)[j]? = some V) := fun j V hV => by
    rw [hleafs, splice_get _ _ _ (by rw [leafs_length]; simpa using hkn)] at hV
    by_cases hj : j = k
    · subst hj
      rw [if_pos (by simp)] at hV
      simp at hV
      exact .inl ⟨rfl, hV.symm⟩
    · rw [if_neg (by simp; omega)] at hV
      exact .inr ⟨hj, hV⟩
  let src : Nat → Nat → Option Loc := fun i2 j => if i2 = N ∧ j = k then some (r2, []) else some (r, [(i2, j)])
  have sIn : src N k = some (r2, []) := by simp [src]
  have sOut : ∀ i2 j, ¬ (i2 = N ∧ j = k) → src i2 j = some (r, [(i2, j)]) := fun i2 j h => by simp only [src]; rw [if_neg h]
  have sOk : ∀ i2 j l0, src i2 j = some l0 → (i2 = N ∧ j = k ∧ l0 = (r2, [])) ∨ (¬ (i2 = N ∧ j = k) ∧ l0 = (r, [(i2, j)])) := fun i2 j l0 h => by
    simp only [src] at h
    split at h
    · rename_i hh; cases h; exact .inl ⟨hh.1, hh.2, rfl⟩
    · rename_i hh; cases h; exact .inr ⟨hh, rfl⟩
  refine Exists.elim (h5.regroup (R0 := r) (e := e) (b := b) (v := .r ⟨st.nx + 2, []⟩) (nl := nl) (xs := zs.set N zn) (els := zs.mapIdx fun i y => encE r i 0 b y) src hv3g hf f5 f6 (fun r3 hr3 => ?_) (fun i1 j1 i2 j2 l0 h1 h2 => ?_) (fun i2 j h => ?_) (.inl hd5) (fun r' e0 => by rw [hd5] at e0; cases e0) hrow (by simp) (fun i2 c y2 hc hy2 => ?_) (fun i2 y2 j V row hy2 hV hVr => ?_)) (fun g' hg' => ⟨g', hg'.1⟩)
  · obtain ⟨p1, p2⟩ := f7 r3 hr3
    refine ⟨p1, fun i2 j p h => ?_⟩
    rcases sOk _ _ _ h with ⟨_, _, h⟩ | ⟨_, h⟩ <;> cases h
    · exact p2 (by simp)
    · exact p1 rfl
  · rcases sOk _ _ _ h1 with ⟨a1, a2, a3⟩ | ⟨a1, a2⟩ <;> rcases sOk _ _ _ h2 with ⟨b1, b2, b3⟩ | ⟨b1, b2⟩
    · rw [a1, a2, b1, b2]
    · rw [a3] at b2; cases b2
    · rw [a2] at b3; cases b3
    · rw [a2] at b2; cases b2; rfl
  · rcases sOk _ _ _ h with ⟨_, _, h⟩ | ⟨_, h⟩ <;> cases h
    exact hne rfl
  · obtain ⟨y3, hy3, rfl⟩ := hgetE i2 c hc
    refine ⟨encE_length _ _ _ _ _, fun j q V u hq hV hu => ?_⟩
    rw [encE_leaf, Nat.zero_add, Option.map_eq_some_iff] at hq
    obtain ⟨V3, hV3, rfl⟩ := hq
    by_cases hiN : i2 = N
    · subst hiN
      rw [List.getElem?_set_self hNl] at hy2
      cases hy2
      rw [z2] at hy3; cases hy3
      rcases hlk j V hV with ⟨rfl, rfl⟩ | ⟨hj, hVj⟩
      · rw [sIn]
        rw [hV0] at hV3; cases hV3
        obtain ⟨ys, rfl⟩ := sl_of hV0t
        simp only [leafC] at hu
        exact ⟨fun _ => (hd_eq hu).trans hhd, fun hs => by rw [hxg] at hs; cases hs⟩
      · rw [hV3] at hVj; cases hVj
        rw [sOut _ _ (fun h => hj h.2)]
        exact leafC_fit hf hV3 hu
    · rw [List.getElem?_set_ne (Ne.symm hiN)] at hy2
      rw [hy2] at hy3; cases hy3
      rw [hV] at hV3; cases hV3
      rw [sOut _ _ (fun h => hiN h.1)]
      exact leafC_fit hf hV hu
  · by_cases hin : i2 = N ∧ j = k
    · obtain ⟨rfl, rfl⟩ := hin
      rw [List.getElem?_set_self hNl] at hy2
      cases hy2
      rcases hlk j V hV with ⟨_, rfl⟩ | ⟨hj, _⟩
      · rw [sIn]; exact hleaf2 row hVr
      · exact absurd rfl hj
    · rw [sOut _ _ hin]
      have key : ∃ y3, zs[i2]? = some y3 ∧ (leafs b y3)[j]? = some V := by
        by_cases hiN : i2 = N
        · subst hiN
          rw [List.getElem?_set_self hNl] at hy2
          cases hy2
          rcases hlk j V hV with ⟨rfl, _⟩ | ⟨_, hVj⟩
          · exact absurd ⟨(by first | rfl | trivial), (by first | rfl | trivial)⟩ hin
          · exact ⟨z, z2, hVj⟩
        · rw [List.getElem?_set_ne (Ne.symm hiN)] at hy2
          exact ⟨y2, hy2, hV⟩
      obtain ⟨y3, hy3, hV3⟩ := key
      refine hrowS i2 j y3 row hy3 ?_ hin
      have := subRow_leaf b 0 y3 j
      rw [Nat.zero_add, hV3] at this
      rw [this]; exact hVr
/-- Entering a callee. -/
theorem call_enter {sg : Sig} {fn : sg.p.den → Option sg.r.den} (hsp : CallSpec X.P sg fn) {args : Array Operand} {ats : Array TypeId} {f : FuncId} {caps : List SC} (hf : sg.f = f) (hi : TInv X D st ρ a w g) (hx : st.val x = .ok (.c (.fn f caps))) :
    ∃ cv : Array Value, cv.size = caps.length ∧ (∀ (k : Nat) (q : C), (encL ρ caps)[k]? = some q → CRep w g q (cv.getD k undef)) ∧
      (execOp a.eval ⟨some d, .call { callee := .value x, args := args, argTypes := ats }, ty, ps, af, gd⟩).run X.P w = .ok (.enter f (args.map a.eval ++ cv)) w := by
  obtain ⟨⟨F, hF, hname, hbody⟩, _⟩ := hsp
  have hxr : CRep w g (.fn f (encL ρ caps)) (a.eval x) := by simpa [SV.enc, SC.enc, PRep] using val_rep hi hx
  obtain ⟨cv, hcv, hcvl, hcvr⟩ : ∃ cv : Array Value, a.eval x = .func (.func f) #[] cv ∧ cv.size = caps.length ∧ ∀ (k : Nat) (q : C), (encL ρ caps)[k]? = some q → CRep w g q (cv.getD k undef) := by
    generalize a.eval x = u at hxr
    cases hxr with
    | fn _ _ vs hs hrep => exact ⟨vs, rfl, by rw [hs, encL_map, List.length_map], hrep⟩
  have hn' : ¬ F.name = "runtime.NumGoroutine" := by simpa using hname
  have hb' : ¬ F.body = none := fun e => by rw [e] at hbody; cases hbody
  rw [hf] at hF
  exact ⟨cv, hcvl, hcvr, by simp [execOp, resolve, Deferred.ofValue, hcv, invoke, callFunc, hF, hn', hb']⟩
theorem args_rep (hi : TInv X D st ρ a w g) {args : Array Operand} {us : List SV} (hus : args.toList.mapM st.val = .ok us) {caps : List SC} {cv : Array Value} (hcvr : ∀ (k : Nat) (q : C), (encL ρ caps)[k]? = some q → CRep w g q (cv.getD k undef)) :
    ∀ (i : Nat) (sv : SV), (us ++ caps.map SV.c)[i]? = some sv → PRep X.P w g (sv.enc ρ) ((args.map a.eval ++ cv).getD i undef) := fun i sv hsv => by
  obtain ⟨m1, m2⟩ := mapM_ok _ _ hus
  have m1' : us.length = (args.map a.eval).size := by simp [m1]
  rw [List.getElem?_append] at hsv
  rw [Array.getD_eq_getD_getElem?, Array.getElem?_append, ← m1']
  split at hsv
  · rename_i hlt
    rw [if_pos hlt]
    obtain ⟨o, ho, hov⟩ := m2 i sv hsv
    have : (args.map a.eval)[i]? = some (a.eval o) := by rw [Array.getElem?_map, ← Array.getElem?_toList, ho]; rfl
    rw [this]
    exact val_rep hi hov
  · rename_i hge
    rw [if_neg hge]
    rw [List.getElem?_map, Option.map_eq_some_iff] at hsv
    obtain ⟨c, hc, rfl⟩ := hsv
    have := hcvr (i - us.length) (c.enc ρ) (by rw [encL_map, List.getElem?_map, hc]; rfl)
    rw [Array.getD_eq_getD_getElem?] at this
    exact this
/-- The first argument seen in another way. -/
theorem args_head {P : Program} {us : List SV} {v : SV} {argv : Array Value} (h : ∀ (i : Nat) (sv : SV), us[i]? = some sv → PRep P w g (sv.enc ρ) (argv.getD i undef)) (h0 : PRep P w g (v.enc ρ) (argv.getD 0 undef)) :
    ∀ (i : Nat) (sv : SV), (v :: us.drop 1)[i]? = some sv → PRep P w g (sv.enc ρ) (argv.getD i undef) := fun i sv hsv => by
  cases i with
  | zero => cases hsv; exact h0
  | succ i =>
    simp only [List.getElem?_cons_succ, List.getElem?_drop] at hsv
    exact h (i + 1) sv (by rw [show i + 1 = 1 + i from by omega]; exact hsv)
theorem call_ok (hS : Specs X.P ss Γ) (hN : d < X.N) {args : Array Operand} {ats : Array TypeId} {f : FuncId} {caps : List SC} (hx : st.val x = .ok (.c (.fn f caps))) (h : stepCall st ss d f args.toList caps = .ok s)
    (hnr : nr = true → ∀ sg, findS st ss f args.toList = some sg → sg.flags.isEmpty = true) : WStep X NoD Γ nr st ⟨some d, .call { callee := .value x, args := args, argTypes := ats }, ty, ps, af, gd⟩ s := by
  unfold stepCall at h
  split at h
  case h_2 => cases h
  rename_i sg hsg
  split at h
  case isTrue => cases h
  have hb0 := ok_bind h
  clear h
  obtain ⟨us, hus, h⟩ := hb0
  obtain ⟨hmem, hf⟩ := findS_mem hsg
  obtain ⟨fn, _, hsp⟩ := hS sg hmem
  have hnr' : nr = true → sg.flags.isEmpty = true := fun e => hnr e sg hsg
  intro ρ ρ' a w g hi hw hk hev
  obtain ⟨cv, hcvl, hcvr, hmach⟩ := call_enter (d := d) (ty := ty) (ps := ps) (af := af) (gd := gd) (args := args) (ats := ats) hsp hf hi hx
  obtain ⟨m1, m2⟩ := mapM_ok _ _ hus
  have hargs := args_rep hi hus hcvr
  unfold Oper.wp
  rw [hmach]
  simp only [Oper.upon]
  rw [← hf]
  unfold callPre at h
  split at h
  · -- nil handed over
    rename_i e b io ps1 us1 hps
    simp only at h
    by_cases hc : ((adoptNew st e b).wf = true ∧ (adoptNew st e b).rok = true ∧ caps.isEmpty = true)
    case neg => rw [if_pos hc] at h; cases h
    rw [if_neg (fun hh => hh hc)] at h
    obtain ⟨us2, hus2, h⟩ := ok_bind h
    obtain ⟨hw1, hk1, hc0⟩ := hc
    have hc0 : caps = [] := by simpa using hc0
    subst hc0
    obtain ⟨g1, hi1, q1, _⟩ := hi.adoptNew (e := e) (b := b) (nl := true) hk
    have hcv0 : cv = #[] := Array.eq_empty_of_size_eq_zero hcvl
    subst hcv0
    have hargs2 := args_rep (caps := []) (cv := #[]) hi1 hus2 (fun k q hq => by simp [encL] at hq)
    simp only [List.map_nil, List.append_nil] at hargs2 hargs
    have h0 : (args.map a.eval ++ #[]).getD 0 undef = .slice none 0 0 := by
      have := hargs 0 _ rfl
      have h0 : CRep w g .nil ((args.map a.eval ++ #[]).getD 0 undef) := by simpa [SV.enc, SC.enc, PRep] using this
      generalize (args.map a.eval ++ #[]).getD 0 undef = u at h0
      cases h0; rfl
    obtain ⟨m3, _⟩ := mapM_ok _ _ hus2
    have hlen : (args.map a.eval ++ #[]).size = (SV.c (.h st.nr) :: us2.drop 1).length := by
      have h1 : us2.length = args.size := by simpa using m3
      have h2 : (SV.c SC.nil :: us1).length = args.size := by simpa using m1
      simp at h1 h2 ⊢
      omega
    refine Calls.mono (callV_ok hS hmem hN h hi1 hw1 hk1 hev hlen (args_head hargs2 (by rw [h0, ← q1]; exact .hd _ _ rfl))) fun e2 w' ⟨v, h1, h2, g', h3, _⟩ => ?_
    subst h1
    exact ⟨fun e => h2 (hnr' e), g', h3⟩
  · -- a token
    rename_i e b ps1 xx us1 hps
    simp only at h
    by_cases hc : ((st.push .dead).wf = true ∧ (st.push .dead).rok = true ∧ xx.lt st.ts.length = true ∧ caps.isEmpty = true)
    case neg => rw [if_pos hc] at h; cases h
    rw [if_neg (fun hh => hh hc)] at h
    obtain ⟨us2, hus2, h⟩ := ok_bind h
    obtain ⟨hw1, hk1, hxl, hc0⟩ := hc
    have hc0 : caps = [] := by simpa using hc0
    subst hc0
    have hcv0 : cv = #[] := Array.eq_empty_of_size_eq_zero hcvl
    subst hcv0
    obtain ⟨g1, hi1, q1, q2, q3, q4⟩ := hi.adoptTok (v := (args.map a.eval ++ #[]).getD 0 undef) hk
    have hargs2 := args_rep (caps := []) (cv := #[]) hi1 hus2 (fun k q hq => by simp [encL] at hq)
    simp only [List.map_nil, List.append_nil] at hargs2 hargs
    have h0 : CRep w g1 ((SC.tk st.nr xx).enc ρ) ((args.map a.eval ++ #[]).getD 0 undef) := by
      have h1 : CRep w g ((SC.s none xx).enc ρ) ((args.map a.eval ++ #[]).getD 0 undef) := hargs 0 _ rfl
      simp only [SC.enc] at h1 ⊢
      refine .both _ _ _ (.hd _ _ q1.symm) (h1.keep (pl := fun _ => False) (pr := fun rg => rg = none) (fun _ h => h.elim) (fun rg hrg b hb => ?_) (els_ok (prr := fun rg => rg = none) rfl _))
      subst hrg
      exact ⟨by show g1.S b; rw [q3]; exact hb, rfl⟩
    obtain ⟨m3, _⟩ := mapM_ok _ _ hus2
    have hlen : (args.map a.eval ++ #[]).size = (SV.c (.tk st.nr xx) :: us2.drop 1).length := by
      have h1 : us2.length = args.size := by simpa using m3
      have h2 : (SV.c (SC.s none xx) :: us1).length = args.size := by simpa using m1
      simp at h1 h2 ⊢
      omega
    refine Calls.mono (callV_ok hS hmem hN h hi1 hw1 hk1 hev hlen (args_head hargs2 h0)) fun e2 w' ⟨v, h1, h2, g', h3, _⟩ => ?_
    subst h1
    exact ⟨fun e => h2 (hnr' e), g', h3⟩
  · -- an inner slice handed over
    rename_i e b ps1 r i k xx us1 hps
    obtain ⟨⟨es1, st1⟩, hz, h⟩ := ok_bind h
    simp only at h
    by_cases hc : (st1.wf = true ∧ st1.rok = true ∧ caps.isEmpty = true ∧ st.dirty.isEmpty = true)
    case neg => rw [if_pos hc] at h; cases h
    rw [if_neg (fun hh => hh hc)] at h
    obtain ⟨us2, hus2, h⟩ := ok_bind h
    obtain ⟨R, hR, h⟩ := ok_bind h
    by_cases hc2 : (R.head? = some st.nr ∧ sg.flags.head? = some true ∧ (!R.contains r) = true)
    case neg => rw [if_pos hc2] at h; cases h
    rw [if_neg (fun hh => hh hc2)] at h
    obtain ⟨s2, hs2, h⟩ := ok_bind h
    obtain ⟨⟨es3, st3⟩, hpb, h⟩ := ok_bind h
    simp only at h
    split at h
    case h_2 => simp at h
    rename_i e3 b3 v3 nl3 i3 k3 hrr
    by_cases hhole : (decide (i3 = i ∧ k3 = k)) = true
    case neg => rw [if_neg hhole] at h; cases h
    rw [if_pos hhole] at h
    simp only [Except.ok.injEq] at h
    subst h
    obtain ⟨hw1, hk1, hc0, hdty⟩ := hc
    obtain ⟨hR0, hfl0, hRr⟩ := hc2
    have hc0 : caps = [] := by simpa using hc0
    subst hc0
    rw [List.map_append, List.map_append] at hev
    obtain ⟨ρ1, hev1, hev⟩ := evalB_app _ _ hev
    obtain ⟨ρ2, hev2, hev3⟩ := evalB_app _ _ hev
    obtain ⟨g1, hi1, o1, o2, _, ⟨ρx, rfl⟩, o4, o5, o6⟩ := takeOut_ok hi hz hev1
    have hcv0 : cv = #[] := Array.eq_empty_of_size_eq_zero hcvl
    subst hcv0
    have hargs2 := args_rep (caps := []) (cv := #[]) hi1 hus2 (fun k q hq => by simp [encL] at hq)
    simp only [List.map_nil, List.append_nil] at hargs2 hargs
    have h0 : (args.map a.eval ++ #[]).getD 0 undef = g1.hdr (st.nr, []) := by
      have := hargs 0 _ rfl
      have h0 : CRep w g (.both (.hd (r, [(i.nat ρ, k)])) (.ro (some r) ((xx.get ρ).els (some r)))) ((args.map a.eval ++ #[]).getD 0 undef) := by simpa [SV.enc, SC.enc, PRep] using this
      rw [hd_eq (both_l h0), o1]
    obtain ⟨m3, _⟩ := mapM_ok _ _ hus2
    have hlen : (args.map a.eval ++ #[]).size = (SV.c (.h st.nr) :: us2.drop 1).length := by
      have h1 : us2.length = args.size := by simpa using m3
      have h2 : (SV.c (.hn r i k xx) :: us1).length = args.size := by simpa using m1
      simp at h1 h2 ⊢
      omega
    refine Calls.mono (callV_ok hS hmem hN hs2 hi1 hw1 hk1 hev2 hlen (args_head hargs2 (by rw [h0]; exact .hd _ _ rfl))) fun e2 w' ⟨v, h1, h2, g', h3, h4⟩ => ?_
    subst h1
    refine ⟨fun e => ?_, ?_⟩
    · have := hnr' e
      have hn : sg.flags = [] := by simpa using this
      rw [hn] at hfl0; cases hfl0
    obtain ⟨k1, k2⟩ := h4 R hR
    obtain ⟨ρ3, hρ3⟩ := evalB_prefix _ _ _ hev2
    refine putBack_ok h3 hpb hev3 fun e' b' v' nl' i' k' hr' => ?_
    rw [hr'] at hrr
    cases hrr
    simp only [decide_eq_true_eq] at hhole
    obtain ⟨rfl, rfl⟩ := hhole
    have hin : i3.nat ρ2 = i3.nat ρ := by rw [hρ3, List.append_assoc, nat_app (by rw [hi.len]; exact o6)]
    rw [hin, k1 r _ (by rw [o5]; omega) (by simpa using hRr), k2 0 st.nr (by rw [List.head?_eq_getElem?] at hR0; exact hR0) (by rw [List.head?_eq_getElem?] at hfl0; exact hfl0), o2 _ o4, o1]
  · refine Calls.mono (callV_ok hS hmem hN h hi hw hk hev (by simp [m1, hcvl]) hargs) fun e2 w' ⟨v, h1, h2, g', h3, _⟩ => ?_
    subst h1
    exact ⟨fun e => h2 (hnr' e), g', h3⟩
end
end Go.Pu
/-
  Own work. From the body to the contract.
-/
namespace Go.Pu
open Go Go.RowKit
set_option linter.unusedVariables false
set_option linter.unusedSectionVars false

section
variable {X : Ctx} {D : Nat → Prop} {Γ : List FE} {st : St} {ρ : Env} {a : Act} {w : World} {g : G}
/-- A result that lies within a list is taken out. -/
theorem outRes_ok (hi : TInv X D st ρ a w g) (hN : 0 < X.N) {es : List (Ex × Ty)} {st' : St} (h : outRes st = .ok (es, st')) {ρ' : Env} (hev : evalB Γ (es.map (·.1)) ρ = some ρ') : ∃ g', TInv X D st' ρ' a w g' := by
  have hs := hi.inv.slot 0
  unfold outRes at h
  split at h
  · rename_i r i k xx hsl
    obtain ⟨⟨es1, st1⟩, hz, h⟩ := ok_bind h
    simp only [Except.ok.injEq, Prod.mk.injEq] at h
    obtain ⟨rfl, rfl⟩ := h
    obtain ⟨g1, hi1, h1, _⟩ := takeOut_ok hi hz hev
    rw [hsl] at hs
    have hs : CRep w g (.both (.hd (r, [(i.nat ρ, k)])) (.ro (some r) ((xx.get ρ).els (some r)))) (a.tmps.getD 0 undef) := by simpa [SV.enc, SC.enc, PRep] using hs
    exact ⟨g1, hi1.reslot (.hd _ _ (by rw [hd_eq (both_l hs), h1]))⟩
  · rename_i r i k xx rs hsl
    obtain ⟨⟨es1, st1⟩, hz, h⟩ := ok_bind h
    simp only at h
    split at h
    · rename_i x0 rs1 hsl1
      simp only [Except.ok.injEq, Prod.mk.injEq] at h
      obtain ⟨rfl, rfl⟩ := h
      obtain ⟨g1, hi1, h1, _⟩ := takeOut_ok hi hz hev
      rw [hsl] at hs
      have hs1 := hi1.inv.slot 0
      rw [hsl1] at hs1
      obtain ⟨vs, e1, e2, e3⟩ := hs
      obtain ⟨vs1, f1, f2, f3⟩ := hs1
      rw [e1] at f1
      cases f1
      refine ⟨g1, hi1.reslot ⟨vs, e1, by rw [f2]; simp, fun j q hq => ?_⟩⟩
      cases j with
      | zero =>
        simp only [List.map_cons, List.getElem?_cons_zero, Option.some.injEq] at hq
        subst hq
        obtain ⟨u, hu, hr⟩ := e3 0 _ rfl
        refine ⟨u, hu, ?_⟩
        have hr : CRep w g (.both (.hd (r, [(i.nat ρ, k)])) (.ro (some r) ((xx.get ρ).els (some r)))) u := by simpa [encR, encL, SC.enc, RRep] using hr
        show CRep w g1 (.hd (st.nr, [])) u
        exact .hd _ _ (by rw [hd_eq (both_l hr), h1])
      | succ j => exact f3 (j + 1) q (by simpa using hq)
    · cases h
  · simp only [Except.ok.injEq, Prod.mk.injEq] at h
    obtain ⟨rfl, rfl⟩ := h
    have := evalB_nil hev
    subst this
    exact ⟨g, hi⟩
end
/-- From the body to the contract. -/
theorem spec_of {P : Program} {ss : List Sig} {Γ : List FE} {an : Ann} {s : Sig} {stm : Stm} {fn : s.p.den → Option s.r.den} (hm : P.follows .mixedOrders = true) (hop : ∀ X : Ctx, X.P = P → OpLaw X Γ ss) (h : cFunc P ss an s = .ok stm)
    (hname : (match P.funcs[s.f]? with | some F => F.name == "runtime.NumGoroutine" | none => true) = false) (hfn : ∀ x, fn x = stm.den Γ [] s.r [⟨s.p, x⟩]) : CallSpec P s fn := by
  unfold cFunc at h
  split at h
  · cases h
  · rename_i F hF
    split at h
    · cases h
    · rename_i c hb
      by_cases hc : (an.N = F.ntmps ∧ s.ps.length ≤ F.ntmps)
      · rw [if_neg (fun hh => hh hc)] at h
        obtain ⟨hN, hle⟩ := hc
        rw [hF] at hname
        refine ⟨⟨F, hF, hname, by rw [hb]; rfl⟩, fun x y w g args hp hy => ?_⟩
        refine calls_of_wp hF hb ?_
        let X : Ctx := ⟨P, F.ntmps, w.heap.size, w, g.S, fun b => ∃ l, g.own b = some l, fun j => g.hdr (j, [])⟩
        have hsz : (args ++ Array.replicate (F.ntmps - args.size) undef).size = F.ntmps := by rw [Array.size_append, Array.size_replicate, hp.size]; omega
        have hlen : (preSt s).slots.length = s.ps.length := initSlots_length _ _ _ _
        have hi : TInv X NoD (initSt F.ntmps s) [⟨s.p, x⟩] { tmps := args ++ Array.replicate (F.ntmps - args.size) undef, defers := [] } w g := by
          refine ⟨rfl, ⟨hsz, rfl, ⟨Chg.refl _ _ _, Nat.le_refl _, fun b hb => ⟨hp.S b hb, .inl hb⟩, fun b l hl => ⟨.inl ⟨l, hl⟩, hp.own b l hl⟩⟩, fun i => ?_, fun l row hl => hp.row l row hl⟩, fun r _ => rfl, ⟨fun b hb => hb.elim, fun r b q h => by cases h⟩⟩
          show PRep P w g (((initSt F.ntmps s).slot i).enc [⟨s.p, x⟩]) ((args ++ Array.replicate (F.ntmps - args.size) undef).getD i undef)
          have hsl : (initSt F.ntmps s).slot i = (((preSt s).slots ++ List.replicate (F.ntmps - (preSt s).slots.length) SV.und).getD i SV.junk) := rfl
          rw [hsl]
          by_cases hi : i < s.ps.length
          · have e1 : ((preSt s).slots ++ List.replicate (F.ntmps - (preSt s).slots.length) SV.und).getD i .junk = (preSt s).slot i := by
              unfold St.slot
              rw [List.getD, List.getD, List.getElem?_append_left (by omega)]
            have e2 : (args ++ Array.replicate (F.ntmps - args.size) undef).getD i undef = args.getD i undef := by
              rw [Array.getD_eq_getD_getElem?, Array.getD_eq_getD_getElem?, Array.getElem?_append_left (by rw [hp.size]; exact hi)]
            rw [e1, e2]; exact hp.slot i
          · have e1 : ((preSt s).slots ++ List.replicate (F.ntmps - (preSt s).slots.length) SV.und).getD i .junk = .und ∨ ((preSt s).slots ++ List.replicate (F.ntmps - (preSt s).slots.length) SV.und).getD i .junk = .junk := by
              rw [List.getD, List.getElem?_append_right (by omega), List.getElem?_replicate]
              split
              · exact .inl rfl
              · exact .inr rfl
            have e2 : (args ++ Array.replicate (F.ntmps - args.size) undef).getD i undef = undef := by
              rw [Array.getD_eq_getD_getElem?, Array.getElem?_append_right (by rw [hp.size]; omega), Array.getElem?_replicate]
              split <;> rfl
            rw [e2]
            rcases e1 with e1 | e1 <;> rw [e1]
            · rfl
            · trivial
        have hden : stm.den Γ [] s.r [⟨s.p, x⟩] = some y := by rw [← hfn]; exact hy
        refine Code.wp_mono (fun e a' w' hb' => ?_) (code_ok (X := X) hm (hop X rfl) (jump_law X) hN c _ _ stm h [] y _ _ w g hi hden)
        obtain ⟨st', ρ1, g', s', q1, q2, q3⟩ := hb'
        have fin : cFin P F s st' = .ok s' → a'.defers = [] ∧ ∃ v, (results F a'.tmps).run P w' = .ok v w' ∧ ∃ v', (Ending.returned v) = .returned v' ∧ Post P s y w g v' w' := fun hfin => by
          refine ⟨q2.inv.nodef, ?_⟩
          unfold cFin at hfin
          obtain ⟨cs, hcs, hfin⟩ := ok_bind hfin
          split at hfin
          · cases hfin
          · rename_i hne
            obtain ⟨⟨es, st2⟩, ho, hfin⟩ := ok_bind hfin
            obtain ⟨⟨t, xs⟩, hj, hfin⟩ := ok_bind hfin
            simp only [Except.ok.injEq] at hfin
            subst hfin
            obtain ⟨v, hv, hrep⟩ := results_ok q2 hcs (by simpa using hne)
            refine ⟨v, hv, v, rfl, ?_⟩
            let X1 : Ctx := { X with N := 1 }
            have hi0 : TInv X1 NoD { st' with slots := [resPut cs] } ([⟨s.p, x⟩] ++ ρ1) { tmps := #[v], defers := [] } w' g' := by
              refine ⟨q2.typ, ⟨rfl, rfl, ⟨q2.inv.ok.chg, q2.inv.ok.base, q2.inv.ok.S, q2.inv.ok.own⟩, fun i => ?_, q2.inv.row⟩, q2.fixd, q2.dirt⟩
              cases i with
              | zero => exact hrep
              | succ i => trivial
            obtain ⟨ρ2, hev, q3⟩ := binds_den _ _ q3
            obtain ⟨g1, hi1⟩ := outRes_ok hi0 (Nat.lt_succ_self 0) ho hev
            have ht : t = s.r := jump_ty hj rfl
            subst ht
            obtain ⟨g2, hi2⟩ := jump_law X1 _ _ _ _ [] _ _ w' g1 hj hi1.untk rfl
            have hy2 : (mkv s.r (xs.map (At.get ([] ++ ρ2)))).1 = y := by
              simp only [Stm.den, dif_pos, Option.some.injEq] at q3
              exact q3
            rw [hy2] at hi2
            refine ⟨hi2.inv.ok.chg, g2, fun b l hl => ?_, fun j hj => ?_, hi2.inv.slot 0, hi2.inv.row⟩
            · obtain ⟨h1, h2, _⟩ := hi2.inv.ok.own b l hl
              exact ⟨h1, h2⟩
            · have := fixed_flags s.ps 0 j hj
              rw [Nat.zero_add] at this
              exact hi2.fixd j this
        cases e with
        | normal => exact fin q1
        | ret => exact fin q1
        | exit id => cases q1
        | goto l => cases q1
        | panic ch => cases q1
        | outgrown => cases q1
      · rw [if_pos hc] at h; cases h
end Go.Pu
/-
  Own work. Maps from ints to bools.
-/
namespace Go.Pu
open Go Go.RowKit Go.MapKept
set_option linter.unusedVariables false
set_option linter.unusedSectionVars false

theorem mapT_spec {P : Program} {t : TypeId} (h : (mapT P t).isSome = true) : ∃ k e i, P.underlying t = some (.map k e) ∧ P.underlying k = some (.int .i64) ∧ P.info? e = some i ∧ i.zero = some (.bool false) := by
  unfold mapT at h
  split at h
  · rename_i k e hu
    split at h
    · rename_i i hk hi
      split at h
      · rename_i hz; exact ⟨k, e, i, hu, hk, hi, hz⟩
      · cases h
    · cases h
  · cases h
def EntRep (es : List MapEntry) (kvs : List (Int × Bool)) : Prop := es.map (fun e => (e.key, e.val)) = kvs.map (fun kv => (Value.int .i64 kv.1, Value.bool kv.2))
theorem findNow_ent : ∀ (es : List MapEntry) (kvs : List (Int × Bool)) (k : Int) (i0 : Nat), EntRep es kvs →
    (Instr.findNow (.int .i64) (.int .i64 k) es i0 = some none ∧ (∀ b, mset kvs k b = kvs ++ [(k, b)]) ∧ mget kvs k = false) ∨
    ∃ (j : Nat) (b : Bool), Instr.findNow (.int .i64) (.int .i64 k) es i0 = some (some (i0 + j, .bool b)) ∧ kvs[j]? = some (k, b) ∧ (∀ b', mset kvs k b' = kvs.set j (k, b')) ∧ mget kvs k = b
  | [], [], k, i0, _ => .inl ⟨rfl, fun b => rfl, rfl⟩
  | e :: es, kv :: kvs, k, i0, h => by
    simp only [EntRep, List.map_cons, List.cons.injEq, Prod.mk.injEq] at h
    obtain ⟨⟨h1, h2⟩, h3⟩ := h
    by_cases hk : k = kv.1
    · subst hk
      right
      refine ⟨0, kv.2, by simp [Instr.findNow, Instr.sameNow, h1, h2], rfl, fun b' => by simp [mset], by simp [mget]⟩
    · have hb : (kv.1 == k) = false := by simp; exact fun e => hk e.symm
      have hb2 : (k == kv.1) = false := by simp; exact hk
      rcases findNow_ent es kvs k (i0 + 1) h3 with ⟨q1, q2, q3⟩ | ⟨j, b, q1, q2, q3, q4⟩
      · left
        refine ⟨by simp only [Instr.findNow, Instr.sameNow, h1, if_true, hb2, q1], fun b => by simp [mset, hk, q2], ?_⟩
        simp only [mget] at q3 ⊢
        simp only [List.find?_cons, hb]
        exact q3
      · right
        refine ⟨j + 1, b, by simp only [Instr.findNow, Instr.sameNow, h1, if_true, hb2, q1, Option.some.injEq, Prod.mk.injEq, and_true]; omega, by simpa using q2, fun b' => by simp [mset, hk, q3], ?_⟩
        simp only [mget] at q4 ⊢
        simp only [List.find?_cons, hb]
        exact q4
  | [], _ :: _, _, _, h => by simp [EntRep] at h
  | _ :: _, [], _, _, h => by simp [EntRep] at h
theorem key_int (k : Int) : IsKey (.int .i64) (.int .i64 k) := by simp [IsKey]
section
variable {X : Ctx} {D : Nat → Prop} {Γ : List FE} {st : St} {ρ : Env} {a : Act} {w w' : World} {g g' : G}
variable {d : Nat} {x y z : Operand} {t t' ty : TypeId} {ps : String} {af : Array Edge} {gd : Option (Nat × Bool)} {s : Step} {nr : Bool}
theorem mp_of {V : V} (h : V.t = .mp) : ∃ m : List (Int × Bool), V = ⟨.mp, m⟩ := by
  obtain ⟨t, x⟩ := V
  simp only at h
  subst h
  exact ⟨x, rfl⟩
theorem map_row (hi : TInv X D st ρ a w g) {r : Nat} {v : At} {m : List (Int × Bool)} (hr : st.rk r = .mp v) (hv : v.get ρ = ⟨.mp, m⟩) :
    ∃ (b clk : Nat) (es : Array MapEntry), g.hdr (r, []) = .map (some b) ∧ g.own b = some (r, []) ∧ w.heap[b]? = some (.map es clk) ∧ EntRep es.toList m := by
  have hrow : RowRep X.P w g (r, []) (.mp m) := by
    refine hi.inv.row (r, []) _ ?_
    simp only [hr, RK.rows, hv]
    rw [V.as_self]
  cases hrow with
  | mp _ b clk es hd own heap hes => exact ⟨b, clk, es, hd, own, heap, hes⟩
theorem run_lookup {P : Program} {w : World} {b clk : Nat} {es : Array MapEntry} {m : List (Int × Bool)} {k : Int} (ht : (mapT P t).isSome = true) (hb : w.heap[b]? = some (.map es clk)) (he : EntRep es.toList m) :
    (Instr.lookup t (.map (some b)) (.int .i64 k) false).run P w = .ok (.bool (mget m k)) w := by
  obtain ⟨kt, et, i, hu, hk, hinfo, hzero⟩ := mapT_spec ht
  have hzv : (zeroValue et).run P w = .ok (.bool false) w := by simp [zeroValue, typeInfo, hinfo, hzero]
  have hfk : ∀ r, Instr.findNow (.int .i64) (.int .i64 k) es.toList 0 = some r → (Instr.findKey kt (.int .i64 k) es.toList).run P w = .ok r w := fun r h => run_findKey hk h
  have hck := run_checkKey (P := P) (w := w) hk (key_int k) es.isEmpty 9999
  unfold Instr.lookup
  simp only [Sem.run_bind, run_underlying hu, Result.andThen_ok, MapKept.run_getObj_map hb, Sem.run_pure, hck]
  rcases findNow_ent es.toList m k 0 he with ⟨q1, _, q3⟩ | ⟨j, b', q1, _, _, q4⟩
  · simp only [hfk _ q1, Result.andThen_ok, Sem.run_bind, hzv, Sem.run_pure, q3]
    rfl
  · simp only [hfk _ q1, Result.andThen_ok, Sem.run_pure, q4]
    rfl
theorem lookup_ok (hN : d < X.N) (h : stepLookup X.P st d t x y = .ok s) : QStep X D Γ st ⟨some d, .lookup t x y false, ty, ps, af, gd⟩ s := by
  unfold stepLookup at h
  have hb1 := ok_bind h
  clear h
  obtain ⟨⟨kk, i⟩, hy, h⟩ := hb1
  have hb2 := ok_bind h
  clear h
  obtain ⟨vx, hx, h⟩ := hb2
  obtain ⟨y1, y2⟩ := intOf_ok hy
  split at h
  case h_2 => cases h
  rename_i r
  split at h
  case h_2 => cases h
  rename_i v hr
  split at h
  case isFalse => cases h
  rename_i hc
  obtain ⟨ht, rfl, hvt, hcl⟩ := hc
  simp only [Except.ok.injEq] at h
  subst h
  refine q_step1 rfl hN fun ρ a w g v' hi hv' => ?_
  obtain ⟨m, hm⟩ := mp_of (At.ty_get hi.typ hvt)
  simp only [Ex.den1, Ex.den, hm, Option.some.injEq] at hv'
  subst hv'
  obtain ⟨b, clk, es, q1, q2, q3, q4⟩ := map_row hi hr hm
  have hxv : a.eval x = .map (some b) := by
    have : CRep w g (.hd (r, [])) (a.eval x) := by simpa [SV.enc, SC.enc, PRep] using val_rep hi hx
    rw [hd_eq this, q1]
  have hyv := val_int hi y1 y2
  have hnd : ¬ D b := clean_own hi q2 (fun _ => by simpa [St.clean] using hcl) (fun h => absurd rfl h)
  refine ⟨rfl, .bool _, fun w' hcls => ?_, .bool _⟩
  have hrel := hcls rfl
  have hb' : w'.heap[b]? = some (.map es clk) := by rw [hrel.2 b (Array.getElem?_eq_some_iff.1 q3).1 hnd]; exact q3
  simp only [execOp, hxv, hyv, Sem.run_bind, run_lookup ht hb' q4, Result.andThen_ok, Sem.run_pure]
theorem run_mapUpdate {P : Program} {w : World} {b clk : Nat} {es : Array MapEntry} {m : List (Int × Bool)} {k : Int} {bv : Bool} (ht : (mapT P t).isSome = true) (hb : w.heap[b]? = some (.map es clk)) (he : EntRep es.toList m) :
    ∃ es' clk', (Instr.mapUpdate t (.map (some b)) (.int .i64 k) (.bool bv)).run P w = .ok () { w with heap := w.heap.setIfInBounds b (.map es' clk') } ∧ EntRep es'.toList (mset m k bv) := by
  obtain ⟨kt, et, i, hu, hk, hinfo, hzero⟩ := mapT_spec ht
  have hfk : ∀ r, Instr.findNow (.int .i64) (.int .i64 k) es.toList 0 = some r → (Instr.findKey kt (.int .i64 k) es.toList).run P w = .ok r w := fun r h => run_findKey hk h
  have hck := run_checkKey (P := P) (w := w) hk (key_int k) false 9999
  unfold Instr.mapUpdate
  rcases findNow_ent es.toList m k 0 he with ⟨q1, q2, _⟩ | ⟨j, b', q1, q2, q3, _⟩
  · refine ⟨es.push { key := .int .i64 k, val := .bool bv, born := clk }, clk + 1, ?_, ?_⟩
    · simp only [Sem.run_bind, run_underlying hu, Result.andThen_ok, MapKept.run_getObj_map hb, hck, hfk _ q1, MapKept.run_setObj_map _ hb]
    · rw [q2]
      simp only [EntRep, Array.toList_push, List.map_append, List.map_cons, List.map_nil] at he ⊢
      rw [he]
  · have hlen : es.toList.length = m.length := by
      have := congrArg List.length he
      simpa using this
    have hjl : j < m.length := (List.getElem?_eq_some_iff.1 q2).1
    have hj2 : j < es.toList.length := by omega
    have hes : es.toList[j]? = some es.toList[j] := List.getElem?_eq_getElem hj2
    have hkey : es.toList[j].key = .int .i64 k := by
      have h1 : (es.toList.map (fun e => (e.key, e.val)))[j]? = (m.map (fun kv => (Value.int .i64 kv.1, Value.bool kv.2)))[j]? := by rw [he]
      rw [List.getElem?_map, List.getElem?_map, hes, q2] at h1
      simp only [Option.map_some, Option.some.injEq, Prod.mk.injEq] at h1
      exact h1.1
    have hes2 : es[j]? = some es.toList[j] := by rw [← Array.getElem?_toList]; exact hes
    refine ⟨es.modify j fun e => { e with key := .int .i64 k, val := .bool bv }, clk, ?_, ?_⟩
    · have hkt : (Instr.keyThatStays (.int .i64 k) (.int .i64 k)).run P w = .ok (.int .i64 k) w := by
        simp [Instr.keyThatStays, Instr.sameBits]
      simp only [Sem.run_bind, run_underlying hu, Result.andThen_ok, MapKept.run_getObj_map hb, hck, hfk _ q1, Nat.zero_add, hes2, Option.map_some, Option.getD_some, hkey, hkt, MapKept.run_setObj_map _ hb]
    · rw [q3]
      simp only [EntRep] at he ⊢
      apply List.ext_getElem?
      intro n
      have hn : (es.toList.map (fun e => (e.key, e.val)))[n]? = (m.map (fun kv => (Value.int .i64 kv.1, Value.bool kv.2)))[n]? := by rw [he]
      rw [List.getElem?_map, List.getElem?_map] at hn ⊢
      have hmod : (es.modify j fun e => { e with key := .int .i64 k, val := .bool bv }).toList[n]? = if j = n then (es.toList[n]?).map (fun e => { e with key := .int .i64 k, val := .bool bv }) else es.toList[n]? := by
        rw [Array.getElem?_toList, Array.getElem?_modify, Array.getElem?_toList]
      rw [hmod]
      by_cases e : j = n
      · subst e
        rw [if_pos rfl, hes, List.getElem?_set_self hjl]
        rfl
      · rw [if_neg e, List.getElem?_set_ne e]
        exact hn
theorem gok_obj (h : GOK X g w) {b : Nat} {l : Loc} (ho : g.own b = some l) (o : Obj) : GOK X g { w with heap := w.heap.setIfInBounds b o } := by
  obtain ⟨h1, h2, h3⟩ := h.own b l ho
  have hs : ({ w with heap := w.heap.setIfInBounds b o } : World).heap.size = w.heap.size := by simp
  refine ⟨h.chg.trans ⟨rfl, rfl, rfl, by rw [hs]; exact Nat.le_refl _, fun k hk hO => ?_⟩, by rw [hs]; exact h.base, fun b' hb' => by rw [hs]; exact h.S b' hb', fun b' l' hl => by rw [hs]; exact h.own b' l' hl⟩
  have : b ≠ k := by
    intro e; subst e
    rcases h1 with h1 | h1
    · exact hO h1
    · omega
  simp [Array.getElem?_setIfInBounds_ne this]
theorem mapUpdate_ok (h : stepMapUpdate X.P st t x y z = .ok s) : WStep X D Γ false st ⟨none, .mapUpdate t x y z, ty, ps, af, gd⟩ s := by
  unfold stepMapUpdate at h
  have hb1 := ok_bind h
  clear h
  obtain ⟨⟨kk, i⟩, hy, h⟩ := hb1
  have hb2 := ok_bind h
  clear h
  obtain ⟨bx, hz, h⟩ := hb2
  have hb3 := ok_bind h
  clear h
  obtain ⟨vm, hx, h⟩ := hb3
  obtain ⟨y1, y2⟩ := intOf_ok hy
  obtain ⟨z1, z2⟩ := boolOf_ok hz
  split at h
  case h_2 => cases h
  rename_i r
  split at h
  case h_2 => cases h
  rename_i v hr
  split at h
  case isFalse => cases h
  rename_i hc
  obtain ⟨ht, rfl, hvt, hdty⟩ := hc
  have hdty : st.dirty = [] := by simpa using hdty
  simp only [Except.ok.injEq] at h
  subst h
  intro ρ ρ' a w g hi hw hk hev
  obtain ⟨v', hv', rfl⟩ := evalB_one hev
  obtain ⟨m, hm⟩ := mp_of (At.ty_get hi.typ hvt)
  simp only [Ex.den1, Ex.den, hm, Option.some.injEq] at hv'
  subst hv'
  obtain ⟨b, clk, es, q1, q2, q3, q4⟩ := map_row hi hr hm
  have hxv : a.eval x = .map (some b) := by
    have : CRep w g (.hd (r, [])) (a.eval x) := by simpa [SV.enc, SC.enc, PRep] using val_rep hi hx
    rw [hd_eq this, q1]
  have hyv := val_int hi y1 y2
  have hzv := val_bool hi z1 z2
  obtain ⟨es', clk', hrun, he'⟩ := run_mapUpdate (t := t) (k := (i.get ρ).int) (bv := (bx.get ρ).bool) ht q3 q4
  unfold Oper.wp
  simp only [execOp, hxv, hyv, hzv, Sem.run_bind, hrun, Result.andThen_ok, Sem.run_pure, Oper.upon]
  refine ⟨fun e => (by cases e), g, ?_⟩
  have hi2 := hi.bindOne hw (v := ⟨.mp, mset m (i.get ρ).int (bx.get ρ).bool⟩) rfl
  have hob := hi.inv.ok.own b _ q2
  have hother : ∀ b2, b2 ≠ b → ({ w with heap := w.heap.setIfInBounds b (.map es' clk') } : World).heap[b2]? = w.heap[b2]? := fun b2 hb2 => by simp [Array.getElem?_setIfInBounds_ne (Ne.symm hb2)]
  have S : Stab (st.bind .mp).nr false r w g { w with heap := w.heap.setIfInBounds b (.map es' clk') } g := stab_write q2 hob.2.2 hother
  have hput : TInv X D { (((st.bind .mp).kill false r).setR r (.mp st.ref)) with dirty := st.dirty } (ρ ++ [⟨.mp, mset m (i.get ρ).int (bx.get ρ).bool⟩]) a { w with heap := w.heap.setIfInBounds b (.map es' clk') } g := by
    refine hi2.mut (rok_bind hk _) S (gok_obj hi.inv.ok q2 _) _ (fun p row hp => ?_) (fun h => by cases h) (fun b2 l hl hb2 => ⟨hb2, hother b2 fun e0 => by subst e0; rw [q2] at hb2; cases hb2; exact hl rfl⟩) st.dirty hi.dirt
    cases p with
    | cons q p => simp [RK.rows] at hp
    | nil =>
      simp only [RK.rows, Option.some.injEq] at hp
      subst hp
      rw [ref_get hi.len, V.as_self]
      exact .mp _ b clk' es' q1 q2 (by simp [Array.getElem?_setIfInBounds_self_of_lt (Array.getElem?_eq_some_iff.1 q3).1]) he'
  exact hput
end
end Go.Pu
