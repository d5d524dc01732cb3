/-
  Own work. The head's state out of the present one.
-/
import Derived.Test.YtamaghlnjchhbaaPuV
namespace Go.Pu
open Go Go.RowKit
set_option linter.unusedVariables false
set_option linter.unusedSectionVars false

mutual
theorem SC.beq_eq : ∀ (x y : SC), x.beq y = true → x = y
  | .v x, y, h => by cases y <;> simp [SC.beq] at h; rw [h]
  | .s rg x, y, h => by cases y <;> simp [SC.beq] at h; rw [h.1, h.2]
  | .nil, y, h => by cases y <;> simp [SC.beq] at h; rfl
  | .h r, y, h => by cases y <;> simp [SC.beq] at h; rw [h]
  | .hn r i k x, y, h => by cases y <;> simp [SC.beq] at h; rw [h.1, h.2.1, h.2.2.1, h.2.2.2]
  | .hs r lo hi x, y, h => by cases y <;> simp [SC.beq] at h; rw [h.1, h.2.1, h.2.2.1, h.2.2.2]
  | .rp rg cs, y, h => by
    cases y with
    | rp rg' cs' => simp only [SC.beq, Bool.and_eq_true, decide_eq_true_eq] at h; rw [h.1, beqL_eq cs cs' h.2]
    | _ => simp [SC.beq] at h
  | .fn f cs, y, h => by
    cases y with
    | fn f' cs' => simp only [SC.beq, Bool.and_eq_true, decide_eq_true_eq] at h; rw [h.1, beqL_eq cs cs' h.2]
    | _ => simp [SC.beq] at h
  | .gone, y, h => by cases y <;> simp [SC.beq] at h
theorem beqL_eq : ∀ (xs ys : List SC), beqL xs ys = true → xs = ys
  | [], [], _ => rfl
  | x :: xs, y :: ys, h => by
    simp only [beqL, Bool.and_eq_true] at h
    rw [SC.beq_eq x y h.1, beqL_eq xs ys h.2]
  | [], _ :: _, h => by simp [beqL] at h
  | _ :: _, [], h => by simp [beqL] at h
end
theorem mkv_leaf {u : Ty} (v : V) (hu : u.leaf = true) (hv : v.t = u) : (⟨u, (mkv u [v]).1⟩ : V) = v := by
  cases u with
  | int k => obtain ⟨t, x⟩ := v; simp only at hv; subst hv; rfl
  | bool => obtain ⟨t, x⟩ := v; simp only at hv; subst hv; rfl
  | sl e a => obtain ⟨t, x⟩ := v; simp only at hv; subst hv; simp [mkv]
  | mp => obtain ⟨t, x⟩ := v; simp only at hv; subst hv; simp [mkv]
  | unit => cases hu
  | pr a b => cases hu
/-- A part of a value put together. -/
theorem mkv_proj : ∀ (t : Ty) (vs : List V) (pre : List Bool) (v0 : V), vs.length = t.n → v0.proj pre = ⟨t, (mkv t vs).1⟩ → ∀ (k : Nat) (p : List Bool) (u : Ty) (v : V), (pathsOf pre t)[k]? = some p → t.leaves[k]? = some u → vs[k]? = some v → v0.proj p = ⟨u, (mkv u [v]).1⟩ := by
  intro t
  induction t with
  | pr a b iha ihb =>
    intro vs pre v0 hl hp k p u v q1 q2 q3
    have la := leaves_length a
    have lp := pathsOf_length a (pre ++ [false])
    rw [mkv_pr a b vs hl] at hp
    simp only [Ty.n] at hl
    simp only [pathsOf, Ty.leaves, List.getElem?_append, lp, la] at q1 q2
    split at q1
    · rename_i hk
      rw [if_pos hk] at q2
      exact iha (vs.take a.n) (pre ++ [false]) v0 (by simp; omega) (by rw [proj_app, hp]; rfl) k p u v q1 q2 (by rw [List.getElem?_take, if_pos hk]; exact q3)
    · rename_i hk
      rw [if_neg hk] at q2
      exact ihb (vs.drop a.n) (pre ++ [true]) v0 (by simp; omega) (by rw [proj_app, hp]; rfl) (k - a.n) p u v q1 q2 (by rw [List.getElem?_drop, show a.n + (k - a.n) = k from by omega]; exact q3)
  | unit => intro vs pre v0 hl hp k p u v q1; simp [pathsOf] at q1
  | _ =>
    intro vs pre v0 hl hp k p u v q1 q2 q3
    have hk : k = 0 := by have := (List.getElem?_eq_some_iff.1 q1).1; simp [pathsOf] at this; exact this
    subst hk
    simp only [pathsOf, Ty.leaves, List.getElem?_cons_zero, Option.some.injEq] at q1 q2
    subst q1 q2
    rw [hp]
    simp only [Ty.n] at hl
    match vs, hl, q3 with
    | [v'], _, q3 => simp at q3; subst q3; rfl
theorem leaf_path : ∀ (t : Ty) (pre p : List Bool) (u : Ty), t.proj p = some u → u.leaf = true → ∃ k : Nat, (pathsOf pre t)[k]? = some (pre ++ p) ∧ t.leaves[k]? = some u := by
  intro t
  induction t with
  | pr a b iha ihb =>
    intro pre p u h hu
    cases p with
    | nil => simp only [Ty.proj, Option.some.injEq] at h; subst h; cases hu
    | cons c p =>
      cases c with
      | false =>
        simp only [Ty.proj] at h
        obtain ⟨k, h1, h2⟩ := iha (pre ++ [false]) p u h hu
        have hlt := (List.getElem?_eq_some_iff.1 h1).1
        have hlt2 := (List.getElem?_eq_some_iff.1 h2).1
        refine ⟨k, ?_, ?_⟩
        · simp only [pathsOf]; rw [List.getElem?_append_left hlt, h1]; simp
        · simp only [Ty.leaves]; rw [List.getElem?_append_left hlt2, h2]
      | true =>
        simp only [Ty.proj] at h
        obtain ⟨k, h1, h2⟩ := ihb (pre ++ [true]) p u h hu
        refine ⟨a.n + k, ?_, ?_⟩
        · simp only [pathsOf]; rw [List.getElem?_append_right (by rw [pathsOf_length]; omega), pathsOf_length, show a.n + k - a.n = k from by omega, h1]; simp
        · simp only [Ty.leaves]; rw [List.getElem?_append_right (by rw [leaves_length]; omega), leaves_length, show a.n + k - a.n = k from by omega, h2]
  | unit => intro pre p u h hu; cases p with
    | nil => simp only [Ty.proj, Option.some.injEq] at h; subst h; cases hu
    | cons c p => simp [Ty.proj] at h
  | _ => intro pre p u h hu; cases p with
    | nil => simp only [Ty.proj, Option.some.injEq] at h; subst h; exact ⟨0, by simp [pathsOf], rfl⟩
    | cons c p => simp [Ty.proj] at h
theorem bindAll_get {bs : Binds} : ∀ (ps : List (List Bool)) (xs : List At), bindAll bs ps = some xs → xs.length = ps.length ∧ ∀ (k : Nat) (p : List Bool), ps[k]? = some p → ∃ x, xs[k]? = some x ∧ findB p bs = some x
  | [], xs, h => by simp only [bindAll, Option.some.injEq] at h; subst h; exact ⟨rfl, fun k p h => by simp at h⟩
  | p0 :: ps, xs, h => by
    simp only [bindAll] at h
    split at h
    · rename_i x xs' h1 h2
      simp only [Option.some.injEq] at h
      subst h
      obtain ⟨e1, e2⟩ := bindAll_get ps xs' h2
      refine ⟨by simp [e1], fun k p hp => ?_⟩
      cases k with
      | zero => simp only [List.getElem?_cons_zero, Option.some.injEq] at hp; subst hp; exact ⟨x, rfl, h1⟩
      | succ k => simpa using e2 k p (by simpa using hp)
    · cases h

section
variable {ts : List Ty} {ht : Ty} {ρ0 ρ1 : Env} {Y : ht.den}
def BOK (ht : Ty) (Y : ht.den) (ρ : Env) (bs : Binds) : Prop := ∀ b ∈ bs, V.proj ⟨ht, Y⟩ b.1 = b.2.get ρ
theorem bok_of {bs : Binds} {xs : List At} {ρ : Env} (hts : ρ.map V.t = ts) (hall : bs.all (fun x => bindOk ts ht bs x) = true) (hb : bindAll bs (pathsOf [] ht) = some xs) (hY : Y = (mkv ht (xs.map (At.get ρ))).1) : BOK ht Y ρ bs := by
  obtain ⟨e1, e2⟩ := bindAll_get _ _ hb
  intro b hbm
  have := List.all_eq_true.1 hall b hbm
  unfold bindOk at this
  simp only [Bool.and_eq_true, decide_eq_true_eq] at this
  obtain ⟨h1, h2⟩ := this
  split at h2
  · rename_i u hu
    simp only [Bool.and_eq_true, decide_eq_true_eq] at h2
    obtain ⟨h2, h3⟩ := h2
    obtain ⟨k, hk1, hk2⟩ := leaf_path ht [] b.1 u h2 h3
    rw [List.nil_append] at hk1
    obtain ⟨x, hx1, hx2⟩ := e2 k _ hk1
    rw [h1] at hx2
    cases hx2
    have := mkv_proj ht (xs.map (At.get ρ)) [] ⟨ht, Y⟩ (by rw [List.length_map, e1, pathsOf_length]) (by rw [hY]; rfl) k b.1 u (b.2.get ρ) hk1 hk2 (by rw [List.getElem?_map, hx1]; rfl)
    rw [this]
    exact mkv_leaf _ h3 (At.ty_get hts hu)
  · cases h2
theorem get_head (p : List Bool) : At.get (ρ0 ++ [⟨ht, Y⟩]) (.r ⟨ρ0.length, p⟩) = V.proj ⟨ht, Y⟩ p := by
  simp [At.get, Ref.get, List.getD]
theorem At.meet_get {x y : At} {bs : Binds} (h : x.meet ρ0.length ts ht y = some bs) (hb : BOK ht Y (ρ0 ++ ρ1) bs) : x.get (ρ0 ++ [⟨ht, Y⟩]) = y.get (ρ0 ++ ρ1) := by
  unfold At.meet at h
  split at h
  · rename_i m p
    split at h
    · rename_i hm
      subst hm
      split at h
      · split at h
        · cases h
          rw [get_head]
          exact hb _ List.mem_cons_self
        · cases h
      · cases h
    · split at h
      · rename_i hc
        obtain ⟨h1, rfl⟩ := hc
        rw [At.get_app (ρ := ρ0) (ρ' := [⟨ht, Y⟩]) (by simp [At.lt]; exact h1), At.get_app (ρ := ρ0) (ρ' := ρ1) (by simp [At.lt]; exact h1)]
      · cases h
  · rename_i x' hx
    split at h
    · rename_i e
      subst e
      cases x with
      | r q => exact absurd rfl (hx q.n q.p)
      | _ => rfl
    · cases h
theorem bok_app {ρ : Env} {xs ys : Binds} (h : BOK ht Y ρ (xs ++ ys)) : BOK ht Y ρ xs ∧ BOK ht Y ρ ys := ⟨fun b hb => h b (List.mem_append_left _ hb), fun b hb => h b (List.mem_append_right _ hb)⟩
theorem SC.meet_enc {c c' : SC} {bs : Binds} (h : c.meet ρ0.length ts ht c' = some bs) (hb : BOK ht Y (ρ0 ++ ρ1) bs) : c.enc (ρ0 ++ [⟨ht, Y⟩]) = .gone ∨ c.enc (ρ0 ++ [⟨ht, Y⟩]) = c'.enc (ρ0 ++ ρ1) := by
  unfold SC.meet at h
  split at h
  · left; simp only [SC.enc]
  · right; simp only [SC.enc, At.meet_get h hb]
  · right
    split at h
    · rename_i e; subst e; simp only [SC.enc, At.meet_get h hb]
    · cases h
  · right
    split at h
    · rename_i hc
      simp only [Bool.and_eq_true] at hc
      have e := SC.beq_eq _ _ hc.2
      subst e
      rw [SC.enc_app _ hc.1, SC.enc_app _ hc.1]
    · cases h
theorem meetL_enc : ∀ (cs cs' : List SC) (bs : Binds), meetL ρ0.length ts ht cs cs' = some bs → BOK ht Y (ρ0 ++ ρ1) bs → cs.length = cs'.length ∧ ∀ (k : Nat) (q : C), (encL (ρ0 ++ [⟨ht, Y⟩]) cs)[k]? = some q → ∃ q', (encL (ρ0 ++ ρ1) cs')[k]? = some q' ∧ (q = .gone ∨ q = q')
  | [], [], bs, _, _ => ⟨rfl, fun k q h => by simp [encL] at h⟩
  | c :: cs, c' :: cs', bs, h, hb => by
    simp only [meetL] at h
    split at h
    · rename_i a b h1 h2
      cases h
      obtain ⟨b1, b2⟩ := bok_app hb
      obtain ⟨e1, e2⟩ := meetL_enc cs cs' b h2 b2
      refine ⟨by simp [e1], fun k q hq => ?_⟩
      cases k with
      | zero =>
        simp only [encL, List.getElem?_cons_zero, Option.some.injEq] at hq
        subst hq
        exact ⟨_, by simp [encL], SC.meet_enc h1 b1⟩
      | succ k => simpa [encL] using e2 k q (by simpa [encL] using hq)
    · cases h
  | [], _ :: _, _, h, _ => by simp [meetL] at h
  | _ :: _, [], _, h, _ => by simp [meetL] at h
theorem weak_rep {w : World} {g : G} {q q' : C} {v : Value} (h : q = .gone ∨ q = q') (hr : CRep w g q' v) : CRep w g q v := by
  rcases h with rfl | rfl
  · exact .gone v
  · exact hr
theorem agg_weak {w : World} {g : G} {cs cs' : List SC} {v : Value} (e1 : cs.length = cs'.length) (e2 : ∀ (k : Nat) (q : C), (encL (ρ0 ++ [⟨ht, Y⟩]) cs)[k]? = some q → ∃ q', (encL (ρ0 ++ ρ1) cs')[k]? = some q' ∧ (q = .gone ∨ q = q')) (hr : AggRep w g (encL (ρ0 ++ ρ1) cs') v) : AggRep w g (encL (ρ0 ++ [⟨ht, Y⟩]) cs) v := by
  obtain ⟨vs, r1, r2, r3⟩ := hr
  refine ⟨vs, r1, by rw [r2, encL_map, encL_map, List.length_map, List.length_map, e1], fun k q hq => ?_⟩
  obtain ⟨q', hq', hw⟩ := e2 k q hq
  obtain ⟨u, hu, hc⟩ := r3 k q' hq'
  exact ⟨u, hu, weak_rep hw hc⟩
theorem meetTup_rep {w : World} {g : G} : ∀ (xs ys : List (Bool × List SC)) (bs : Binds), meetTup ρ0.length ts ht xs ys = some bs → BOK ht Y (ρ0 ++ ρ1) bs → xs.length = ys.length ∧ ∀ (k : Nat) (x : Bool × List SC), xs[k]? = some x → ∃ y, ys[k]? = some y ∧ ∀ v, RRep w g (encR (ρ0 ++ ρ1) y) v → RRep w g (encR (ρ0 ++ [⟨ht, Y⟩]) x) v
  | [], [], bs, _, _ => ⟨rfl, fun k x h => by simp at h⟩
  | x :: xs, y :: ys, bs, h, hb => by
    simp only [meetTup] at h
    split at h
    · rename_i hxy
      split at h
      · rename_i a b h1 h2
        cases h
        obtain ⟨b1, b2⟩ := bok_app hb
        obtain ⟨e1, e2⟩ := meetTup_rep (w := w) (g := g) xs ys b h2 b2
        obtain ⟨q1, q2⟩ := meetL_enc _ _ _ h1 b1
        refine ⟨by simp [e1], fun k z hz => ?_⟩
        cases k with
        | zero =>
          simp only [List.getElem?_cons_zero, Option.some.injEq] at hz
          subst hz
          refine ⟨y, rfl, fun v hv => ?_⟩
          obtain ⟨x1, x2⟩ := x
          obtain ⟨y1, y2⟩ := y
          simp only at hxy q1 q2
          subst hxy
          unfold encR at hv ⊢
          cases x1 with
          | true => exact agg_weak q1 q2 hv
          | false =>
            simp only [Bool.false_eq_true, if_false] at hv ⊢
            cases x2 with
            | nil => simp only [encL]; exact .gone v
            | cons c cs =>
              obtain ⟨q', hq', hw⟩ := q2 0 (c.enc (ρ0 ++ [⟨ht, Y⟩])) (by simp [encL])
              cases y2 with
              | nil => simp [encL] at hq'
              | cons c' cs' =>
                simp only [encL, List.getElem?_cons_zero, Option.some.injEq] at hq' hv ⊢
                subst hq'
                exact weak_rep hw hv
        | succ k => simpa using e2 k z (by simpa using hz)
      · cases h
    · cases h
  | [], _ :: _, _, h, _ => by simp [meetTup] at h
  | _ :: _, [], _, h, _ => by simp [meetTup] at h
theorem SV.meet_rep {P : Program} {w : World} {g : G} {sv sv' : SV} {bs : Binds} {v : Value} (h : sv.meet ρ0.length ts ht sv' = some bs) (hb : BOK ht Y (ρ0 ++ ρ1) bs) (hr : PRep P w g (sv'.enc (ρ0 ++ ρ1)) v) : PRep P w g (sv.enc (ρ0 ++ [⟨ht, Y⟩])) v := by
  unfold SV.meet at h
  split at h
  · trivial
  · exact weak_rep (SC.meet_enc h hb) hr
  · obtain ⟨e1, e2⟩ := meetL_enc _ _ _ h hb
    obtain ⟨vs, r1, r2, r3⟩ := hr
    refine ⟨vs, r1, by rw [r2, encL_map, encL_map, List.length_map, List.length_map, e1], fun k q hq => ?_⟩
    obtain ⟨q', hq', hw⟩ := e2 k q hq
    obtain ⟨u, hu, hc⟩ := r3 k q' hq'
    exact ⟨u, hu, weak_rep hw hc⟩
  · split at h
    · rename_i hc
      obtain ⟨rfl, rfl, rfl, rfl, hlt⟩ := hc
      simp only [SV.enc, nat_app hlt] at hr ⊢
      exact hr
    · cases h
  · split at h
    · rename_i hc
      obtain ⟨rfl, h2, h3⟩ := hc
      have := beqL_eq _ _ h2
      subst this
      simp only [SV.enc, encL_app _ h3] at hr ⊢
      exact hr
    · cases h
  · exact hr
  · obtain ⟨e1, e2⟩ := meetTup_rep (w := w) (g := g) _ _ _ h hb
    obtain ⟨vs, r1, r2, r3⟩ := hr
    refine ⟨vs, r1, by rw [r2, List.length_map, List.length_map, e1], fun k q hq => ?_⟩
    rw [List.getElem?_map, Option.map_eq_some_iff] at hq
    obtain ⟨x, hx, rfl⟩ := hq
    obtain ⟨y, hy, hh⟩ := e2 k x hx
    obtain ⟨u, hu, hc⟩ := r3 k (encR _ y) (by rw [List.getElem?_map, hy]; rfl)
    exact ⟨u, hu, hh u hc⟩
  · cases h
theorem RK.meet_rows {P : Program} {w : World} {g : G} {k k' : RK} {bs : Binds} {r : Nat} (h : k.meet ρ0.length ts ht k' = some bs) (hb : BOK ht Y (ρ0 ++ ρ1) bs) (hr : ∀ p row, k'.rows (ρ0 ++ ρ1) r p = some row → RowRep P w g (r, p) row)
    {p : List (Nat × Nat)} {row : Row} (hrow : k.rows (ρ0 ++ [⟨ht, Y⟩]) r p = some row) : RowRep P w g (r, p) row := by
  unfold RK.meet at h
  split at h
  · rw [rows_dead] at hrow; cases hrow
  · rename_i e xs e' ys
    split at h
    · rename_i he
      subst he
      obtain ⟨e1, e2⟩ := meetL_enc _ _ _ h hb
      cases p with
      | cons q p => simp [RK.rows] at hrow
      | nil =>
        simp only [RK.rows, Option.some.injEq] at hrow
        subst hrow
        have := hr [] _ rfl
        cases this with
        | full _ _ _ _ b base n cap cs f hf =>
          have get : ∀ (i : Nat) (c : List C), [encL (ρ0 ++ [⟨ht, Y⟩]) xs][i]? = some c → i = 0 ∧ c = encL (ρ0 ++ [⟨ht, Y⟩]) xs := fun i c hc => by
            cases i with
            | zero => cases hc; exact ⟨rfl, rfl⟩
            | succ i => cases hc
          refine .full _ _ _ _ b base n cap cs f ⟨hf.hd, hf.own, hf.heap, hf.len, hf.hcap, hf.hmax, hf.fit, hf.pos, fun i c hc => ?_, fun i c k x h1 h2 => ?_, fun i c k x h1 h2 => ?_, fun h => by cases h⟩
          · obtain ⟨rfl, rfl⟩ := get i c hc
            have := hf.size 0 _ rfl
            rw [encL_map, List.length_map] at this ⊢
            rw [e1]; exact this
          · obtain ⟨rfl, rfl⟩ := get i c h1
            obtain ⟨q', hq', _⟩ := e2 k x h2
            exact hf.cell 0 _ k q' rfl hq'
          · obtain ⟨rfl, rfl⟩ := get i c h1
            obtain ⟨q', hq', hw⟩ := e2 k x h2
            exact weak_rep hw (hf.rep 0 _ k q' rfl hq')
    · cases h
  · rename_i e b v nl inner e' b' v' nl' inner'
    split at h
    · rename_i hc
      obtain ⟨rfl, rfl, hnl, rfl⟩ := hc
      have hv := At.meet_get h hb
      cases p with
      | cons q p =>
        refine hr _ _ ?_
        obtain ⟨rfl, rfl, y, hy, hs⟩ := rows_cons_list hrow
        rw [hv] at hy
        simp only [RK.rows]
        have hy' : ((v'.get (ρ0 ++ ρ1)).as (.sl e b) : List b.den)[q.1]? = some y := hy
        rw [hy']; exact hs
      | nil =>
        rw [rows_nil_list, hv] at hrow
        have := hr [] _ (rows_nil_list ..)
        cases hrow
        generalize ((v'.get (ρ0 ++ ρ1)).as (.sl e b)).mapIdx (fun i y => encIn inner r i b y) = els at this
        cases this with
        | nil _ _ hd => exact .nil _ _ hd
        | zero _ A hd =>
          cases nl with
          | false => exact .zero _ A hd
          | true => cases hnl rfl
        | full _ _ _ _ b0 base n cap cs f hf => exact .full _ _ _ _ b0 base n cap cs f ⟨hf.hd, hf.own, hf.heap, hf.len, hf.hcap, hf.hmax, hf.fit, hf.pos, hf.size, hf.cell, hf.rep, fun h => hf.nonil (hnl h)⟩
    · cases h
  · have hv := At.meet_get h hb
    cases p with
    | cons q p => simp [RK.rows] at hrow
    | nil =>
      simp only [RK.rows, hv] at hrow
      exact hr [] _ hrow
  · cases h
theorem meetSVs_get : ∀ (xs ys : List SV) (bs : Binds), meetSVs ρ0.length ts ht xs ys = some bs → BOK ht Y (ρ0 ++ ρ1) bs → ∀ s, ∃ bs', (xs.getD s .junk).meet ρ0.length ts ht (ys.getD s .junk) = some bs' ∧ BOK ht Y (ρ0 ++ ρ1) bs'
  | [], [], bs, _, _, s => ⟨[], by simp [SV.meet], fun b hb => by simp at hb⟩
  | x :: xs, y :: ys, bs, h, hb, s => by
    simp only [meetSVs] at h
    split at h
    · rename_i a b h1 h2
      cases h
      obtain ⟨b1, b2⟩ := bok_app hb
      cases s with
      | zero => exact ⟨a, by simpa using h1, b1⟩
      | succ s => simpa using meetSVs_get xs ys b h2 b2 s
    · cases h
  | [], _ :: _, _, h, _, _ => by simp [meetSVs] at h
  | _ :: _, [], _, h, _, _ => by simp [meetSVs] at h
theorem meetRKs_get : ∀ (xs ys : List RK) (bs : Binds), meetRKs ρ0.length ts ht xs ys = some bs → BOK ht Y (ρ0 ++ ρ1) bs → ∀ s, ∃ bs', (xs.getD s .dead).meet ρ0.length ts ht (ys.getD s .dead) = some bs' ∧ BOK ht Y (ρ0 ++ ρ1) bs'
  | [], [], bs, _, _, s => ⟨[], by simp [RK.meet], fun b hb => by simp at hb⟩
  | x :: xs, y :: ys, bs, h, hb, s => by
    simp only [meetRKs] at h
    split at h
    · rename_i a b h1 h2
      cases h
      obtain ⟨b1, b2⟩ := bok_app hb
      cases s with
      | zero => exact ⟨a, by simpa using h1, b1⟩
      | succ s => simpa using meetRKs_get xs ys b h2 b2 s
    · cases h
  | [], _ :: _, _, h, _, _ => by simp [meetRKs] at h
  | _ :: _, [], _, h, _, _ => by simp [meetRKs] at h
end
theorem jump_law (X : Ctx) : JumpLaw X := by
  intro H st t xs ρ0 ρ1 a w g h hi hH
  unfold jump at h
  have hl : H.ts.getLast? = some t := by rw [hH]; simp
  rw [hl] at h
  simp only at h
  by_cases hc : (H.ts.take (H.ts.length - 1) = st.ts.take (H.ts.length - 1) ∧ H.fix = st.fix ∧ H.ts.length - 1 ≤ st.ts.length)
  · rw [if_neg (fun hh => hh hc)] at h
    obtain ⟨hc1, hc2, hc3⟩ := hc
    have hn : H.ts.length - 1 = ρ0.length := by rw [hH]; simp
    rw [hn] at h
    obtain ⟨g1, hi1⟩ := adoptAll_ok (adoptPlan H st) st g hi
    obtain ⟨t1, t2⟩ := adoptAll_ts (adoptPlan H st) st
    generalize hst1 : adoptAll (adoptPlan H st) st = st1 at h hi1 t1 t2
    generalize rootMap H st1 = σ at h
    by_cases hr : (nodup (σ.map (·.1)) = true ∧ nodup (σ.map (·.2)) = true ∧ st1.fix.all (fun r => decide (mapR σ r = some r)) = true)
    · rw [if_neg (fun hh => hh hr)] at h
      obtain ⟨r1, r2, r3⟩ := hr
      have hi2 := hi1.rel r1 r2 H.nr (fun r hr => by simpa using List.all_eq_true.1 r3 r hr) (fun b => id)
      generalize hst2 : st1.rel σ H.nr = st2 at h hi2
      have hts2 : (ρ0 ++ ρ1).map V.t = st.ts := hi.typ
      split at h
      · rename_i bs1 bs2 m1 m2
        split at h
        · cases h
        · rename_i hall
          have hall : (bs1 ++ bs2).all (fun x => bindOk st.ts t (bs1 ++ bs2) x) = true := Decidable.of_not_not hall
          split at h
          · rename_i xs' hb
            simp only [Except.ok.injEq, Prod.mk.injEq, true_and] at h
            subst h
            have hbok := bok_of hts2 hall hb rfl
            obtain ⟨b1, b2⟩ := bok_app hbok
            refine ⟨_, by rw [hH]; simp, ⟨hi2.inv.size, hi2.inv.nodef, hi2.inv.ok, fun s => ?_, fun l row hl => ?_⟩, fun r hr => ?_, fun b hb => hb.elim⟩
            · obtain ⟨bs', q1, q2⟩ := meetSVs_get _ _ _ m1 b1 s
              exact SV.meet_rep q1 q2 (hi2.inv.slot s)
            · obtain ⟨bs', q1, q2⟩ := meetRKs_get _ _ _ m2 b2 l.1
              exact RK.meet_rows q1 q2 (fun p row hp => hi2.inv.row (l.1, p) row hp) hl
            · refine hi2.fixd r ?_
              rw [hc2, ← t2] at hr
              rw [← hst2]; exact hr
          · cases h
      · cases h
      · cases h
    · rw [if_pos hr] at h; cases h
  · rw [if_pos hc] at h; cases h
end Go.Pu
