/-
  Own work. Calls, the way in: what the contract asks for.
-/
import Derived.Test.YtamaghlnjchhbaaPuY
namespace Go.Pu
open Go Go.RowKit
set_option linter.unusedVariables false
set_option linter.unusedSectionVars false

def nb (ps : List Par) (k : Nat) : Nat := ((ps.take k).map Par.nroots).sum
theorem nb_zero (ps : List Par) : nb ps 0 = 0 := rfl
theorem nb_succ (p : Par) (ps : List Par) (k : Nat) : nb (p :: ps) (k + 1) = p.nroots + nb ps k := by simp [nb]
theorem lp_fst (p : List Bool) (t : Ty) : (t.lp p).map (·.1) = t.leaves := by
  unfold Ty.lp
  rw [List.map_fst_zip (by rw [leaves_length, pathsOf_length]; exact Nat.le_refl _)]
theorem lp_get {p : List Bool} {t : Ty} {k : Nat} {u : Ty} {pth : List Bool} (h : (t.lp p)[k]? = some (u, pth)) : t.leaves[k]? = some u ∧ (pathsOf p t)[k]? = some pth := by
  unfold Ty.lp at h
  rw [List.getElem?_zip_eq_some] at h
  exact h
theorem lp_length (p : List Bool) (t : Ty) : (t.lp p).length = t.n := by
  unfold Ty.lp
  rw [List.length_zip, leaves_length, pathsOf_length]; exact Nat.min_self _
theorem ownRs_length (nl : Bool) (n : Nat) : ∀ (ls : List (Ty × List Bool)), (ownRs nl n ls).length = ((ls.map (·.1)).filter Ty.isSl).length
  | [] => rfl
  | (t, p) :: ls => by
    have ih := ownRs_length nl n ls
    cases t with
    | sl e a =>
      have : ((Ty.sl e a) :: ls.map (·.1)).filter Ty.isSl = (Ty.sl e a) :: (ls.map (·.1)).filter Ty.isSl := rfl
      simp only [ownRs, List.map_cons, this, List.length_cons, ih]
    | int k => have : ((Ty.int k) :: ls.map (·.1)).filter Ty.isSl = (ls.map (·.1)).filter Ty.isSl := rfl
               simp only [ownRs, List.map_cons, this, ih]
    | bool => have : ((Ty.bool) :: ls.map (·.1)).filter Ty.isSl = (ls.map (·.1)).filter Ty.isSl := rfl
              simp only [ownRs, List.map_cons, this, ih]
    | unit => have : ((Ty.unit) :: ls.map (·.1)).filter Ty.isSl = (ls.map (·.1)).filter Ty.isSl := rfl
              simp only [ownRs, List.map_cons, this, ih]
    | mp => have : ((Ty.mp) :: ls.map (·.1)).filter Ty.isSl = (ls.map (·.1)).filter Ty.isSl := rfl
            simp only [ownRs, List.map_cons, this, ih]
    | pr a b => have : ((Ty.pr a b) :: ls.map (·.1)).filter Ty.isSl = (ls.map (·.1)).filter Ty.isSl := rfl
                simp only [ownRs, List.map_cons, this, ih]
theorem parRoots_length (m i : Nat) (p : Par) : (parRoots m i p).length = p.nroots := by
  cases p with
  | own agg t io => simp only [parRoots, ownRs_length, lp_fst, Par.nroots, Ty.sls]
  | _ => rfl
theorem initSlots_get (m : Nat) : ∀ (ps : List Par) (i r k : Nat), (initSlots m i r ps)[k]? = (ps[k]?).map (parSlot m (i + k) (r + nb ps k))
  | [], i, r, k => by simp [initSlots]
  | p :: ps, i, r, k => by
    cases k with
    | zero => simp [initSlots, nb_zero]
    | succ k =>
      simp only [initSlots, List.getElem?_cons_succ]
      rw [initSlots_get m ps, nb_succ, show i + 1 + k = i + (k + 1) from by omega, Nat.add_assoc]
theorem initRoots_get (m : Nat) : ∀ (ps : List Par) (i j : Nat) (k' : RK), (initRoots m i ps)[j]? = some k' → ∃ k p q, ps[k]? = some p ∧ (parRoots m (i + k) p)[q]? = some k' ∧ j = nb ps k + q
  | [], i, j, k', h => by simp [initRoots] at h
  | p :: ps, i, j, k', h => by
    simp only [initRoots, List.getElem?_append, parRoots_length] at h
    split at h
    · exact ⟨0, p, j, rfl, h, by simp [nb_zero]⟩
    · rename_i hj
      obtain ⟨k, p', q, h1, h2, h3⟩ := initRoots_get m ps (i + 1) _ k' h
      exact ⟨k + 1, p', q, by simpa using h1, by rwa [show i + (k + 1) = i + 1 + k from by omega], by rw [nb_succ]; omega⟩
section
variable {X : Ctx} {D : Nat → Prop} {Γ : List FE} {st : St} {ρ : Env} {a : Act} {w : World} {g : G} {R : List Nat}
theorem ownVals_len : ∀ (ts : List Ty) (cs : List SC) (ys : List At) (rs : List Nat), st.ownVals ts cs = .ok (ys, rs) → ys.length = ts.length ∧ cs.length = ts.length ∧ rs.length = (ts.filter Ty.isSl).length
  | [], [], ys, rs, h => by simp only [St.ownVals, Except.ok.injEq, Prod.mk.injEq] at h; obtain ⟨rfl, rfl⟩ := h; exact ⟨rfl, rfl, rfl⟩
  | [], c :: cs, ys, rs, h => by simp [St.ownVals] at h
  | t :: ts, [], ys, rs, h => by cases t <;> simp [St.ownVals] at h
  | t :: ts, c :: cs, ys, rs, h => by
    obtain ⟨y, ys', rs', rfl, h1, hc⟩ := ownVals_cons h
    obtain ⟨e1, e2, e3⟩ := ownVals_len ts cs ys' rs' h1
    rcases hc with ⟨hsc, rfl, hty, rfl⟩ | ⟨e, b, r, nl, rfl, rfl, hrk, hf, hty, rfl⟩
    · refine ⟨by simp [e1], by simp [e2], ?_⟩
      have : (t :: ts).filter Ty.isSl = ts.filter Ty.isSl := by cases t <;> first | rfl | cases hsc
      rw [this]; exact e3
    · have : (Ty.sl e b :: ts).filter Ty.isSl = Ty.sl e b :: ts.filter Ty.isSl := rfl
      refine ⟨by simp [e1], by simp [e2], by rw [this]; simp [e3]⟩
theorem callArgs_get : ∀ (ps : List Par) (vs : List SV) (xs : List At), callArgs st R ps vs = .ok xs → ∃ cs : List (List At), xs = cs.flatten ∧ cs.length = ps.length ∧ vs.length = ps.length ∧ ∀ (i : Nat) (p : Par), ps[i]? = some p → ∃ c v, cs[i]? = some c ∧ vs[i]? = some v ∧ callArg st R p v = .ok c
  | [], [], xs, h => by simp only [callArgs, Except.ok.injEq] at h; subst h; exact ⟨[], rfl, rfl, rfl, fun i p h => by simp at h⟩
  | p :: ps, v :: vs, xs, h => by
    simp only [callArgs] at h
    obtain ⟨c, hc, h⟩ := ok_bind h
    obtain ⟨ys, hys, h⟩ := ok_bind h
    simp only [Except.ok.injEq] at h
    subst h
    obtain ⟨cs, rfl, e1, e2, e3⟩ := callArgs_get ps vs ys hys
    refine ⟨c :: cs, rfl, by simp [e1], by simp [e2], fun i q hq => ?_⟩
    cases i with
    | zero => simp only [List.getElem?_cons_zero, Option.some.injEq] at hq; subst hq; exact ⟨c, v, rfl, rfl, hc⟩
    | succ i => simpa using e3 i q (by simpa using hq)
  | [], _ :: _, _, h => by simp [callArgs] at h
  | _ :: _, [], _, h => by simp [callArgs] at h
theorem callRoots_get : ∀ (ps : List Par) (vs : List SV) (R : List Nat), callRoots st ps vs = .ok R → ∀ (i : Nat) (v : SV) (agg : Bool) (t : Ty) (io : Bool), ps[i]? = some (.own agg t io) → vs[i]? = some v → ∃ cs ys rs, svAgg agg v = .ok cs ∧ st.ownVals t.leaves cs = .ok (ys, rs) ∧ ∀ j r, rs[j]? = some r → R[nb ps i + j]? = some r
  | [], [], R, h => fun i v agg t io h => by simp at h
  | p :: ps, v0 :: vs, R, h => fun i v agg t io hp hv => by
    have key : (∃ R0 R', R = R0 ++ R' ∧ R0.length = p.nroots ∧ callRoots st ps vs = .ok R' ∧ ∀ agg t io, p = .own agg t io → ∃ cs ys, svAgg agg v0 = .ok cs ∧ st.ownVals t.leaves cs = .ok (ys, R0)) := by
      cases p with
      | own agg t io =>
        simp only [callRoots] at h
        obtain ⟨cs, hcs, h⟩ := ok_bind h
        obtain ⟨⟨ys, rs⟩, hx, h⟩ := ok_bind h
        obtain ⟨R', hR', h⟩ := ok_bind h
        simp only [Except.ok.injEq] at h
        subst h
        exact ⟨rs, R', rfl, (ownVals_len _ _ _ _ hx).2.2, hR', fun agg' t' io' e => by cases e; exact ⟨cs, ys, hcs, hx⟩⟩
      | _ => exact ⟨[], R, rfl, rfl, h, fun _ _ _ e => by cases e⟩
    obtain ⟨R0, R', rfl, hl, h', hk⟩ := key
    cases i with
    | zero =>
      simp only [List.getElem?_cons_zero, Option.some.injEq] at hp hv
      subst hv
      obtain ⟨cs, ys, q1, q2⟩ := hk agg t io hp
      refine ⟨cs, ys, R0, q1, q2, fun j r hj => ?_⟩
      rw [nb_zero, Nat.zero_add, List.getElem?_append_left (List.getElem?_eq_some_iff.1 hj).1]; exact hj
    | succ i =>
      obtain ⟨cs, ys, rs, q1, q2, q3⟩ := callRoots_get ps vs R' h' i v agg t io (by simpa using hp) (by simpa using hv)
      refine ⟨cs, ys, rs, q1, q2, fun j r hj => ?_⟩
      rw [nb_succ, List.getElem?_append_right (by omega), show p.nroots + nb ps i + j - R0.length = nb ps i + j from by omega]
      exact q3 j r hj
  | [], _ :: _, _, h => by simp [callRoots] at h
  | p :: ps, [], _, h => by cases p <;> simp [callRoots] at h
theorem callArg_len {p : Par} {v : SV} {c : List At} (h : callArg st R p v = .ok c) : c.length = p.ty.n := by
  unfold callArg at h
  split at h
  · rename_i agg t
    obtain ⟨cs, _, h⟩ := ok_bind h
    obtain ⟨_, e, _⟩ := argVals_get _ _ _ h
    rw [e, leaves_length]; rfl
  · rename_i t
    split at h
    · obtain ⟨cs, _, h⟩ := ok_bind h
      obtain ⟨_, e, _⟩ := argVals_get _ _ _ h
      rw [e, leaves_length]; rfl
    · cases h
  · rename_i agg t io
    obtain ⟨cs, _, h⟩ := ok_bind h
    obtain ⟨⟨ys, rs⟩, hx, h⟩ := ok_bind h
    simp only [Except.ok.injEq] at h
    subst h
    obtain ⟨e, _, _⟩ := ownVals_len _ _ _ _ hx
    rw [e, leaves_length]; rfl
  · cases h
  · cases h
theorem cellsOf_length (rg : Rg) (n : Nat) : ∀ (t : Ty) (p : List Bool), (cellsOf rg n p t).length = t.n
  | .int _, _ => rfl
  | .bool, _ => rfl
  | .unit, _ => rfl
  | .sl _ _, _ => rfl
  | .mp, _ => rfl
  | .pr a b, p => by simp only [cellsOf, List.length_append, cellsOf_length rg n a, cellsOf_length rg n b, Ty.n]
theorem ownCs_length (n : Nat) : ∀ (ls : List (Ty × List Bool)) (r : Nat), (ownCs n ls r).length = ls.length
  | [], _ => rfl
  | (t, p) :: ls, r => by cases t <;> simp [ownCs, ownCs_length n ls]
theorem pre_ok (hi : TInv X D st ρ a w g) {sg : Sig} {vs : List SV} {xs : List At} (hR : callRoots st sg.ps vs = .ok R) (hx : callArgs st R sg.ps vs = .ok xs) (hnd : nodup R = true) {argv : Array Value} (hsz : argv.size = vs.length)
    (hv : ∀ (i : Nat) (sv : SV), vs[i]? = some sv → PRep X.P w g (sv.enc ρ) (argv.getD i undef)) : Pre X.P sg (mkv sg.p (xs.map (At.get ρ))).1 w (lendG g R) argv := by
  obtain ⟨cs, rfl, e1, e2, e3⟩ := callArgs_get _ _ _ hx
  have hok := hi.inv.ok
  have hfl : cs.flatten.map (At.get ρ) = (cs.map (·.map (At.get ρ))).flatten := by rw [List.map_flatten]
  rw [hfl]
  obtain ⟨_, hproj⟩ := prod_proj (sg.ps.map Par.ty) (cs.map (·.map (At.get ρ))) (fun k t c h1 h2 => by
    rw [List.getElem?_map, Option.map_eq_some_iff] at h1 h2
    obtain ⟨p, hp, rfl⟩ := h1
    obtain ⟨c', hc', rfl⟩ := h2
    obtain ⟨c2, v, q1, q2, q3⟩ := e3 k p hp
    rw [hc'] at q1; cases q1
    rw [List.length_map]; exact callArg_len q3) (by simp [e1])
  generalize hx0 : (mkv sg.p (cs.map (·.map (At.get ρ))).flatten).1 = x0
  have hx0' : (mkv (prod (sg.ps.map Par.ty)) (cs.map (·.map (At.get ρ))).flatten).1 = x0 := hx0
  rw [hx0'] at hproj
  have hget : ∀ (i : Nat) (p : Par) (c : List At), sg.ps[i]? = some p → cs[i]? = some c → Ref.get [⟨sg.p, x0⟩] ⟨0, partPath sg.ps.length i⟩ = ⟨p.ty, (mkv p.ty (c.map (At.get ρ))).1⟩ := fun i p c h1 h2 => by
    have := hproj i p.ty (c.map (At.get ρ)) (by rw [List.getElem?_map, h1]; rfl) (by rw [List.getElem?_map, h2]; rfl)
    rw [List.length_map] at this
    exact this
  have hleaf : ∀ (i : Nat) (p : Par) (c : List At), sg.ps[i]? = some p → cs[i]? = some c → c.length = p.ty.n → ∀ (k : Nat) (u : Ty) (pth : List Bool) (y : At), (p.ty.lp (partPath sg.ps.length i))[k]? = some (u, pth) → c[k]? = some y → Ref.get [⟨sg.p, x0⟩] ⟨0, pth⟩ = ⟨u, (mkv u [y.get ρ]).1⟩ := fun i p c h1 h2 hl k u pth y h3 h4 => by
    obtain ⟨q1, q2⟩ := lp_get h3
    exact mkv_proj p.ty (c.map (At.get ρ)) (partPath sg.ps.length i) ⟨sg.p, x0⟩ (by rw [List.length_map]; exact hl) (hget i p c h1 h2) k pth u (y.get ρ) q2 q1 (by rw [List.getElem?_map, h4]; rfl)
  refine ⟨by rw [hsz, e2], fun i => ?_, fun l row hl => ?_, fun b hb => ?_, fun b l hl => ?_⟩
  · have hsl : (preSt sg).slot i = ((sg.ps[i]?).map (parSlot sg.ps.length (0 + i) (0 + nb sg.ps i))).getD .junk := by
      unfold St.slot preSt
      simp only [List.getD]
      rw [initSlots_get]
    rw [hsl]
    cases hp : sg.ps[i]? with
    | none => trivial
    | some p =>
      obtain ⟨c, v, q1, q2, q3⟩ := e3 i p hp
      have hrep := hv i v q2
      have hcl := callArg_len q3
      have hg := hget i p c hp q1
      have hlf := hleaf i p c hp q1 hcl
      simp only [Option.map_some, Option.getD_some, Nat.zero_add]
      unfold callArg at q3
      split at q3
      · rename_i agg t
        obtain ⟨ds, hds, q3⟩ := ok_bind q3
        obtain ⟨l1, l2, l3⟩ := argVals_rep hi q3
        refine slot_rep hds hrep (by rw [cellsOf_length, l2]) fun k q hq => ?_
        rw [cellsOf_enc none 0 _ t _ _ hg] at hq
        exact l3 k q hq
      · rename_i t
        split at q3
        · rename_i c0
          obtain ⟨ds, hds, q3⟩ := ok_bind q3
          obtain ⟨l1, l2, l3⟩ := argVals_rep hi q3
          refine ptr_rep hi hds hrep (by rw [cellsOf_length, l2]) fun k q hq => ?_
          rw [cellsOf_enc none 0 _ t _ _ hg] at hq
          exact l3 k q hq
        · cases q3
      · rename_i agg t io
        obtain ⟨ds, hds, q3⟩ := ok_bind q3
        obtain ⟨⟨ys, rs⟩, hx, q3⟩ := ok_bind q3
        simp only [Except.ok.injEq] at q3
        subst q3
        obtain ⟨ds', ys', rs', r1, r2, r3⟩ := callRoots_get _ _ _ hR i v agg t io hp q2
        rw [hds] at r1; cases r1
        rw [hx] at r2; cases r2
        obtain ⟨o1, o2, o3, o4, o5, _⟩ := own_rep (nl' := false) hi (t.lp (partPath sg.ps.length i)) ds ys rs (nb sg.ps i) (by rw [lp_fst]; exact hx) hlf r3
        exact slot_rep hds hrep (by rw [o4, o1]) o5
      · cases q3
      · cases q3
  · obtain ⟨j, pp⟩ := l
    have hl : RK.rows [⟨sg.p, x0⟩] j ((preSt sg).rk j) pp = some row := hl
    cases hj : (initRoots sg.ps.length 0 sg.ps)[j]? with
    | none =>
      have : (preSt sg).rk j = .dead := by unfold St.rk preSt; simp only [List.getD, hj]; rfl
      rw [this, rows_dead] at hl; cases hl
    | some k' =>
      have hk' : (preSt sg).rk j = k' := by unfold St.rk preSt; simp only [List.getD, hj]; rfl
      rw [hk'] at hl
      obtain ⟨i, p, q, hp, hq, rfl⟩ := initRoots_get _ _ _ _ _ hj
      rw [Nat.zero_add] at hq
      cases p with
      | own agg t io =>
        obtain ⟨c, v, q1, q2, q3⟩ := e3 i _ hp
        have hcl := callArg_len q3
        have hlf := hleaf i _ c hp q1 hcl
        simp only [callArg] at q3
        obtain ⟨ds, hds, q3⟩ := ok_bind q3
        obtain ⟨⟨ys, rs⟩, hx, q3⟩ := ok_bind q3
        simp only [Except.ok.injEq] at q3
        subst q3
        obtain ⟨ds', ys', rs', r1, r2, r3⟩ := callRoots_get _ _ _ hR i v agg t io hp q2
        rw [hds] at r1; cases r1
        rw [hx] at r2; cases r2
        obtain ⟨_, _, _, _, _, o6⟩ := own_rep (nl' := false) hi (t.lp (partPath sg.ps.length i)) ds ys rs (nb sg.ps i) (by rw [lp_fst]; exact hx) hlf r3
        obtain ⟨r, e, b, y, pth, nl, s1, s2, s3, rfl, s5⟩ := o6 q k' hq
        have hRj := r3 q r s1
        obtain ⟨row0, hrow0, hrel⟩ := list_rel (ml := fun l l' => l.1 = r ∧ l'.1 = nb sg.ps i + q ∧ l.2 = l'.2) (mr := fun _ _ => False) (r := r) (x := y) (ρ := ρ) (nl := nl) s5 (fun h => by cases h) (fun p _ => ⟨rfl, rfl, rfl⟩) (.inl s3) hl
        have hrr := hi.inv.row (r, pp) row0 (by show RK.rows ρ r (st.rk r) pp = _; rw [s2]; exact hrow0)
        have hh : ∀ l l' : Loc, (l.1 = r ∧ l'.1 = nb sg.ps i + q ∧ l.2 = l'.2) → (lendG g R).hdr l' = g.hdr l := fun l l' ⟨h1, h2, h3⟩ => by
          obtain ⟨l1, l2⟩ := l
          obtain ⟨l3, l4⟩ := l'
          simp only at h1 h2 h3
          subst h1 h2 h3
          exact lend_hdr hRj l2
        have ho : ∀ b, g.own b = some (r, pp) → (lendG g R).own b = some (nb sg.ps i + q, pp) ∧ w.heap[b]? = w.heap[b]? := fun b hb => ⟨by simp only [lendG, hb, get_posOf hnd hRj]; rfl, rfl⟩
        exact hrr.rel hh (fun _ _ h => h.elim) (lend_hdr hRj pp) ho hrel
      | _ => simp [parRoots] at hq
  · rcases hb with hb | ⟨l, hl, _⟩
    · exact (hok.S b hb).1
    · exact (hok.own b l hl).2.1
  · obtain ⟨l0, h0, h1, _, _⟩ := lend_own hl
    refine ⟨(hok.own b l0 h0).2.1, fun hS => ?_⟩
    rcases hS with hS | ⟨l1, h2, h3⟩
    · exact (hok.own b l0 h0).2.2 hS
    · rw [h0] at h2; cases h2; rw [h1] at h3; cases h3
end
end Go.Pu
