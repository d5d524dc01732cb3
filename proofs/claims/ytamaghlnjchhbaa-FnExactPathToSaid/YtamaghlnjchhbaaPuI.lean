/-
  Own work. Lending what is owned; slice expressions; loads; fields.
-/
import Derived.Test.YtamaghlnjchhbaaPuH
namespace Go.Pu
open Go Go.RowKit
set_option linter.unusedVariables false

section
variable {P : Program} {w : World} {g : G}
theorem ro_conv {rg : Rg} {els els' : List (List C)} {u : Value} (h : CRep w g (.ro rg els) u) (hl : els'.length = els.length)
    (hc : ∀ (i : Nat) (cs cs' : List C), els[i]? = some cs → els'[i]? = some cs' → cs'.length = cs.length ∧ ∀ (k : Nat) (x x' : C) (v : Value), cs[k]? = some x → cs'[k]? = some x' → CRep w g x v → CRep w g x' v) : CRep w g (.ro rg els') u := by
  cases h with
  | ro0 _ A cap =>
    have : els' = [] := List.eq_nil_of_length_eq_zero hl
    subst this; exact .ro0 _ _ _
  | ro _ _ b off n cap s f hn hcap hm hS hs hsz hcell hrep =>
    have get : ∀ (i : Nat) (cs' : List C), els'[i]? = some cs' → ∃ cs, els[i]? = some cs := fun i cs' h => by
      have := (List.getElem?_eq_some_iff.1 h).1
      exact ⟨_, List.getElem?_eq_getElem (by omega)⟩
    have cell : ∀ (i : Nat) (cs' : List C) (k : Nat) (x' : C), els'[i]? = some cs' → cs'[k]? = some x' → ∃ cs x, els[i]? = some cs ∧ cs[k]? = some x ∧ ∀ v, CRep w g x v → CRep w g x' v := fun i cs' k x' h1 h2 => by
      obtain ⟨cs, hcs⟩ := get i cs' h1
      obtain ⟨h3, h4⟩ := hc i cs cs' hcs h1
      have h5 := (List.getElem?_eq_some_iff.1 h2).1
      have h6 : cs[k]? = some (cs[k]'(by omega)) := List.getElem?_eq_getElem (by omega)
      exact ⟨cs, _, hcs, h6, fun v hv => h4 k _ x' v h6 h2 hv⟩
    refine .ro rg els' b off n cap s f (by omega) hcap hm hS hs (fun i cs' h => ?_) (fun i cs' k x' h1 h2 => ?_) (fun i cs' k x' h1 h2 => ?_)
    · obtain ⟨cs, hcs⟩ := get i cs' h
      rw [(hc i cs cs' hcs h).1]; exact hsz i cs hcs
    · obtain ⟨cs, x, h3, h4, _⟩ := cell i cs' k x' h1 h2
      exact hcell i cs k x h3 h4
    · obtain ⟨cs, x, h3, h4, h5⟩ := cell i cs' k x' h1 h2
      exact h5 _ (hrep i cs k x h3 h4)
theorem row_ro {r : Nat} {p : List (Nat × Nat)} {nl : Bool} {e : TypeId} {els : List (List C)} (h : RowRep P w g (r, p) (.row false nl e els)) : CRep w g (.ro (some r) els) (g.hdr (r, p)) := by
  cases h with
  | nil _ _ hd => rw [hd]; exact .ro0 _ _ _
  | zero _ A hd => rw [hd]; exact .ro0 _ _ _
  | full _ _ _ _ b base n cap cs f hf =>
    rw [hf.hd]
    refine .ro (some r) els b base n cap (szOf P e) f hf.len hf.hcap hf.hmax (.inr ⟨p, hf.own⟩) hf.pos hf.size (fun i c k x h1 h2 => ?_) hf.rep
    rw [cell_of_row w b _ cs e (0, 0) hf.heap]; exact hf.cell i c k x h1 h2
theorem subRow_lt : ∀ (t : Ty) (k : Nat) (x : t.den) (j : Nat) (row : Row), subRow k t x j = some row → k ≤ j ∧ j < k + t.n
  | .pr a b, k, x, j, row, h => by
    simp only [subRow] at h
    cases hb : Nat.blt j (k + a.n) with
    | true =>
      rw [hb] at h
      have := subRow_lt a k x.1 j row h
      simp only [Ty.n]; omega
    | false =>
      rw [hb] at h
      have := subRow_lt b (k + a.n) x.2 j row h
      simp only [Ty.n]; omega
  | .sl e a, k, xs, j, row, h => by
    simp only [subRow] at h
    cases hb : Nat.beq j k with
    | true => have := Nat.eq_of_beq_eq_true hb; simp only [Ty.n]; omega
    | false => rw [hb] at h; cases h
  | .int _, _, _, _, _, h => by simp [subRow] at h
  | .bool, _, _, _, _, h => by simp [subRow] at h
  | .unit, _, _, _, _, h => by simp [subRow] at h
  | .mp, _, _, _, _, h => by simp [subRow] at h
theorem lend_cell {r i : Nat} : ∀ (t : Ty) (k0 : Nat) (x : t.den), t.flat1 = true → (∀ j row, subRow k0 t x j = some row → RowRep P w g (r, [(i, j)]) row) →
    ∀ (m : Nat) (c c' : C) (u : Value), (encE r i k0 t x)[m]? = some c → (enc (some r) t x)[m]? = some c' → CRep w g c u → CRep w g c' u
  | .int k, k0, x, _, _, m, c, c', u, h1, h2, h => by simp only [encE, enc] at h1 h2; rw [h1] at h2; cases h2; exact h
  | .bool, k0, x, _, _, m, c, c', u, h1, h2, h => by simp only [encE, enc] at h1 h2; rw [h1] at h2; cases h2; exact h
  | .unit, k0, x, _, _, m, c, c', u, h1, h2, h => by simp [encE] at h1
  | .pr a b, k0, x, hf, hr, m, c, c', u, h1, h2, h => by
    simp only [Ty.flat1, Bool.and_eq_true] at hf
    simp only [encE, enc] at h1 h2
    have la := encE_length r i k0 a x.1
    have la' := enc_length (some r) a x.1
    by_cases hm : m < a.n
    · rw [List.getElem?_append_left (by omega)] at h1 h2
      refine lend_cell a k0 x.1 hf.1 (fun j row hj => hr j row ?_) m c c' u h1 h2 h
      simp only [subRow]
      have := subRow_lt a k0 x.1 j row hj
      have hb : Nat.blt j (k0 + a.n) = true := by simp; omega
      rw [hb]; exact hj
    · rw [List.getElem?_append_right (by omega)] at h1 h2
      rw [la] at h1
      rw [la'] at h2
      refine lend_cell b (k0 + a.n) x.2 hf.2 (fun j row hj => hr j row ?_) (m - a.n) c c' u h1 h2 h
      simp only [subRow]
      have := subRow_lt b (k0 + a.n) x.2 j row hj
      have hb : Nat.blt j (k0 + a.n) = false := by
        cases hh : Nat.blt j (k0 + a.n) with
        | false => rfl
        | true => simp at hh; omega
      rw [hb]; exact hj
  | .sl e a, k0, xs, hf, hr, m, c, c', u, h1, h2, h => by
    simp only [Ty.flat1] at hf
    have hm : m = 0 := by
      have := (List.getElem?_eq_some_iff.1 h1).1
      simp [encE] at this; exact this
    subst hm
    simp only [encE, List.getElem?_cons_zero, Option.some.injEq] at h1
    simp only [enc, List.getElem?_cons_zero, Option.some.injEq] at h2
    subst h1 h2
    have hrow := hr k0 (.row false false e (List.map (enc none a) xs)) (by simp [subRow])
    have := row_ro hrow
    rw [hd_eq h]
    have e1 : (List.map (enc none a) xs) = List.map (enc (some r) a) xs := List.map_congr_left fun y _ => enc_flat none (some r) a y hf
    rw [← e1]; exact this
  | .mp, _, _, hf, _, _, _, _, _, _, _, _ => by simp [Ty.flat1] at hf
end
section
variable {X : Ctx} {D : Nat → Prop} {Γ : List FE} {st : St} {ρ : Env} {a : Act} {w : World} {g : G}
theorem sub_of (hi : TInv X D st ρ a w g) {r : Nat} {e : TypeId} {b : Ty} {v : At} {nl : Bool} (hr : st.rk r = .list e b v nl none) {i : Nat} {y : b.den} (hy : ((v.get ρ).as (.sl e b))[i]? = some y) {j : Nat} {row : Row} (hj : subRow 0 b y j = some row) :
    RowRep X.P w g (r, [(i, j)]) row := hi.inv.row (r, [(i, j)]) row (by
  have hy' : ((v.get ρ).as (.sl e b) : List b.den)[i]? = some y := hy
  simp only [hr, RK.rows]
  rw [hy']; exact hj)
/-- An owned list, lent. -/
theorem lend (hi : TInv X D st ρ a w g) {r : Nat} {e : TypeId} {b : Ty} {v : At} {nl : Bool} (hr : st.rk r = .list e b v nl none) (hf : b.flat1 = true) :
    CRep w g (.ro (some r) (List.map (enc (some r) b) ((v.get ρ).as (.sl e b)))) (g.hdr (r, [])) := by
  refine ro_conv (row_ro (row_of hi hr)) (by simp) fun i cs cs' h1 h2 => ?_
  rw [List.getElem?_mapIdx, Option.map_eq_some_iff] at h1
  obtain ⟨y, hy, rfl⟩ := h1
  rw [List.getElem?_map, hy] at h2
  cases h2
  refine ⟨by rw [enc_length]; simp only [encIn, encE_length], fun k c c' u q1 q2 hc => ?_⟩
  exact lend_cell b 0 y hf (fun j row hj => sub_of hi hr hy hj) k c c' u q1 q2 hc

/-! ### Slice expressions -/
theorem optAtom_ok {o : Option Operand} {x : Option At} (h : optAtom st o = .ok x) : (o = none ∧ x = none) ∨ ∃ o' x' k, o = some o' ∧ x = some x' ∧ st.val o' = .ok (.c (.v x')) ∧ st.ty x' = .ok (.int k) := by
  unfold optAtom at h
  cases o with
  | none => simp only [Except.ok.injEq] at h; exact .inl ⟨rfl, h.symm⟩
  | some o =>
    obtain ⟨⟨k, y⟩, hy, h⟩ := ok_bind h
    simp only [Except.ok.injEq] at h
    obtain ⟨h1, h2⟩ := intOf_ok hy
    exact .inr ⟨o, y, k, rfl, h.symm, h1, h2⟩
def bndN (ρ : Env) (z : Option At) (dflt : Nat) : Nat := match z with | some x => (x.get ρ).int.toNat | none => dflt
def Bnd (v : Option Value) (dflt : Nat) (L : Nat) : Prop := (v = none ∧ L = dflt) ∨ ∃ k l, v = some (.int k l) ∧ 0 ≤ l ∧ L = l.toNat
theorem run_slice {P : Program} {w : World} {t e : TypeId} {A : Option Addr} {n cap L H : Nat} (he : elemOf P t = some e) (hs : 0 < szOf P e) (hnc : n ≤ cap) {lo hi : Option Value} (hlo : Bnd lo 0 L) (hhi : Bnd hi n H) (h1 : L ≤ H) (h2 : H ≤ cap) :
    (Instr.sliceAt t (.slice A n cap) lo hi none).run P w = .ok (.slice (if cap = L then A else A.map (·.add (L * szOf P e))) (H - L) (cap - L)) w := by
  have hu := elem_under he
  have b1 : ∀ (k : IntKind) (l : Int) (y : Nat) (c : BoundsCode), 0 ≤ l → l.toNat ≤ y → (Instr.sliceBound (.int k l) y c).run P w = .ok l.toNat w := fun k l y c h0 h1 => by
    have : l ≤ (y : Int) := by omega
    simp [Instr.sliceBound, asIntOf, h0, this]
  have hb : (Instr.sliceBounds true n cap lo hi none).run P w = .ok (L, H, cap) w := by
    rcases hlo with ⟨rfl, rfl⟩ | ⟨k, l, rfl, hl0, rfl⟩ <;> rcases hhi with ⟨rfl, rfl⟩ | ⟨k', h, rfl, hh0, rfl⟩
    · simp [Instr.sliceBounds]
    · simp [Instr.sliceBounds, b1 k' h cap _ hh0 h2]
    · simp [Instr.sliceBounds, b1 k l H _ hl0 h1]
    · simp [Instr.sliceBounds, b1 k' h cap _ hh0 h2, b1 k l h.toNat _ hl0 h1]
  simp [Instr.sliceAt, Instr.slice, run_underlying hu, hb, run_sizeOf hs]
theorem ro_slice {rg : Rg} {els : List (List C)} {A : Option Addr} {n cap L H sz : Nat} (h : CRep w g (.ro rg els) (.slice A n cap)) (hsz : ∀ (i : Nat) (cs : List C), els[i]? = some cs → cs.length = sz) (h1 : L ≤ H) (h2 : H ≤ n) :
    CRep w g (.ro rg ((els.take H).drop L)) (.slice (if cap = L then A else A.map (·.add (L * sz))) (H - L) (cap - L)) := by
  have hlen : n = els.length := by have := ro_len h; cases this; assumption
  by_cases h0 : H - L = 0
  · have : (els.take H).drop L = [] := List.drop_eq_nil_of_le (by simp; omega)
    rw [this, h0]; exact .ro0 _ _ _
  · generalize hu : Value.slice A n cap = u at h
    cases h with
    | ro0 => cases hu; omega
    | ro _ _ b off n' cap' s f hn hc hm hS hs hsz' hcell hrep =>
      cases hu
      have hne : els[0]? = some (els[0]'(by omega)) := List.getElem?_eq_getElem (by omega)
      have hss : s = sz := (hsz' 0 _ hne).symm.trans (hsz 0 _ hne)
      subst hss
      rw [if_neg (by omega)]
      simp only [Option.map_some, addr_add]
      have get : ∀ (i : Nat) (cs : List C), ((els.take H).drop L)[i]? = some cs → els[L + i]? = some cs := fun i cs hi => by
        rw [List.getElem?_drop, List.getElem?_take] at hi
        split at hi
        · exact hi
        · cases hi
      refine .ro rg _ b (off + L * s) (H - L) (cap - L) s (fun i k => f (L + i) k) (by simp; omega) (by omega) (by omega) hS hs (fun i cs hi => hsz' _ cs (get i cs hi)) (fun i cs k x q1 q2 => ?_) (fun i cs k x q1 q2 => hrep _ cs k x (get i cs q1) q2)
      have := hcell _ cs k x (get i cs q1) q2
      rw [Nat.add_mul] at this
      rw [← this]
      congr 2
      omega
theorem gslice_ok {α : Type} {xs ys : List α} {lo hi : Int} (h : gslice xs lo hi = some ys) : 0 ≤ lo ∧ lo ≤ hi ∧ hi ≤ (xs.length : Int) ∧ ys = (xs.take hi.toNat).drop lo.toNat := by
  unfold gslice at h
  split at h
  · rename_i hc
    simp only [Option.some.injEq] at h
    exact ⟨hc.1, hc.2.1, hc.2.2, h.symm⟩
  · cases h
variable {d : Nat} {x y : Operand} {t t' ty : TypeId} {ps : String} {af : Array Edge} {gd : Option (Nat × Bool)} {s : Step}
theorem bnd_of (hi : TInv X D st ρ a w g) {o : Option Operand} {z : Option At} (h : optAtom st o = .ok z) (dflt : Nat) (h0 : ∀ x, z = some x → 0 ≤ (x.get ρ).int) : Bnd (o.map a.eval) dflt (bndN ρ z dflt) := by
  rcases optAtom_ok h with ⟨rfl, rfl⟩ | ⟨o', x', k, rfl, rfl, h1, h2⟩
  · exact .inl ⟨rfl, rfl⟩
  · refine .inr ⟨k, (x'.get ρ).int, ?_, h0 x' rfl, rfl⟩
    simp only [Option.map_some, val_int hi h1 h2]
theorem ro_cap {rg : Rg} {els : List (List C)} {A : Option Addr} {n cap : Nat} (h : CRep w g (.ro rg els) (.slice A n cap)) : n ≤ cap := by
  cases h with
  | ro0 => omega
  | ro _ _ b off n' cap' s f hn hc => exact hc
theorem list_cap (hi : TInv X D st ρ a w g) {c : SC} {v : At} {e : TypeId} {b : Ty} {u : Value} (hc : CRep w g (c.enc ρ) u) (hl : st.listVal c = .ok v) (ht : st.ty v = .ok (.sl e b)) :
    ∃ A cap, u = .slice A ((v.get ρ).as (.sl e b)).length cap ∧ ((v.get ρ).as (.sl e b)).length ≤ cap := by
  by_cases hh : ∃ r, c = .h r
  · obtain ⟨r, rfl⟩ := hh
    obtain ⟨e', b', nl, inner, hr, hv⟩ := listVal_h hl
    have hee := ty_inj ht (ok_ty hv)
    cases hee
    simp only [SC.enc] at hc
    rw [hd_eq hc]
    have := row_ro (row_of hi hr)
    have hlen := ro_len this
    generalize g.hdr (r, []) = u' at this hlen
    cases hlen with
    | mk A n cap hn =>
      simp only [List.length_mapIdx] at hn
      subst hn
      exact ⟨A, cap, rfl, ro_cap this⟩
  · have := list_ro hi hc hl ht (fun r hr => hh ⟨r, hr⟩)
    have hlen := ro_len this
    cases hlen with
    | mk A n cap hn =>
      simp only [List.length_map] at hn
      subst hn
      exact ⟨A, cap, rfl, ro_cap this⟩
theorem enc_rows (rg : Rg) (b : Ty) (xs : List b.den) : ∀ (i : Nat) (cs : List C), (List.map (enc rg b) xs)[i]? = some cs → cs.length = b.n := fun i cs h => by
  rw [List.getElem?_map, Option.map_eq_some_iff] at h
  obtain ⟨y, _, rfl⟩ := h
  exact enc_length rg b y
theorem map_slice {α β : Type} (f : α → β) (xs : List α) (L H : Nat) : ((List.map f xs).take H).drop L = List.map f ((xs.take H).drop L) := by simp [List.map_take, List.map_drop]
theorem slice_ok {lo hi : Option Operand} (hN : d < X.N) (h : stepSlice X.P st d t x lo hi = .ok s) : QStep X D Γ st ⟨some d, .slice t x lo hi none, ty, ps, af, gd⟩ s := by
  unfold stepSlice at h
  obtain ⟨lo', hlo, h⟩ := ok_bind h
  obtain ⟨hi', hhi, h⟩ := ok_bind h
  obtain ⟨vx, hx, h⟩ := ok_bind h
  split at h
  · rename_i c
    obtain ⟨v, hl, h⟩ := ok_bind h
    obtain ⟨tv, hvt, h⟩ := ok_bind h
    split at h
    · rename_i e' b e he
      split at h
      · cases h
      · rename_i hc
        have hc := Decidable.of_not_not hc
        have hs0 : 0 < szOf X.P e := by omega
        have key : ∀ (sv : SC) (hsv : ∀ ρ w g (zs : List b.den) (A : Option Addr) (n cap L H : Nat) (a : Act), TInv X D st ρ a w g → n = ((v.get ρ).as (.sl e' b)).length → n ≤ cap → L ≤ H → H ≤ n → L = bndN ρ lo' 0 → zs = (((v.get ρ).as (.sl e' b) : List b.den).take H).drop L → CRep w g (c.enc ρ) (.slice A n cap) →
              st.ref.get (ρ ++ [⟨.sl e' b, zs⟩]) = ⟨.sl e' b, zs⟩ → CRep w g (sv.enc (ρ ++ [⟨.sl e' b, zs⟩])) (.slice (if cap = L then A else A.map (·.add (L * szOf X.P e))) (H - L) (cap - L))),
            QStep X D Γ st ⟨some d, .slice t x lo hi none, ty, ps, af, gd⟩ ⟨[(.slice v lo' hi', .sl e' b)], (st.bind (.sl e' b)).put d (.c sv)⟩ := fun sv hsv =>
          q_bind rfl hN fun ρ a w g v' hinv hv' => by
            have hvg := V.list_of (ty_get hinv hvt)
            have hp := val_rep hinv hx
            obtain ⟨A, cap, hxe, hcap⟩ := list_cap hinv hp hl hvt
            have hpc : CRep w g (c.enc ρ) (a.eval x) := hp
            rw [hxe] at hpc
            simp only [Ex.den1, Ex.den] at hv'
            rw [hvg] at hv'
            simp only [Option.bind_eq_some_iff, Option.some.injEq] at hv'
            obtain ⟨zs, hzs, rfl⟩ := hv'
            obtain ⟨q0, q1, q2, q3⟩ := gslice_ok hzs
            refine ⟨rfl, _, fun w' _ => ?_, fun _ hr => hsv ρ w g zs A _ cap (bndN ρ lo' 0) (bndN ρ hi' ((v.get ρ).as (.sl e' b)).length) a hinv rfl hcap ?_ ?_ rfl ?_ hpc hr⟩
            · have b1 := bnd_of hinv hlo 0 (fun x hx => by subst hx; exact q0)
              have b2 := bnd_of hinv hhi ((v.get ρ).as (.sl e' b)).length (fun x hx => by subst hx; simp only at q1; omega)
              simp only [execOp, hxe, Option.map_none]
              have hrun := run_slice (P := X.P) (w := w') (A := A) he hs0 hcap b1 b2 (by cases lo' <;> cases hi' <;> simp only [bndN] at q0 q1 q2 ⊢ <;> omega) (by cases hi' <;> simp only [bndN] at q1 q2 ⊢ <;> omega)
              simp only [Sem.run_bind, hrun, Result.andThen_ok, Sem.run_pure]
            · cases lo' <;> cases hi' <;> simp only [bndN] at q0 q1 q2 ⊢ <;> omega
            · cases hi' <;> simp only [bndN] at q1 q2 ⊢ <;> omega
            · rw [q3]
              cases lo' <;> cases hi' <;> simp [bndN]
        cases c with
        | s rg x0 =>
          simp only [Except.ok.injEq] at h
          subst h
          refine key _ fun ρ w g zs A n cap L H a hinv hn hcap hLH hHn hL hz hcr hr => ?_
          have hro := list_ro hinv hcr hl hvt (fun r e0 => by cases e0)
          have := ro_slice hro (sz := b.n) (enc_rows _ b _) hLH (by omega)
          rw [map_slice, ← hz] at this
          simp only [SC.enc, hr, V.els]
          rw [← hc.1]; exact this
        | h r =>
          simp only at h
          split at h
          · rename_i e2 a2 v2 nl2 hrk
            split at h
            · rename_i hc2
              obtain ⟨hf1, rfl, rfl⟩ := hc2
              simp only [Except.ok.injEq] at h
              subst h
              refine key _ fun ρ w g zs A n cap L H a hinv hn hcap hLH hHn hL hz hcr hr => ?_
              obtain ⟨e3, b3, nl3, inner3, hrk3, hv3⟩ := listVal_h hl
              rw [hrk] at hrk3
              cases hrk3
              have hro := lend hinv hrk hf1
              simp only [SC.enc] at hcr
              have hdr := hd_eq hcr
              rw [← hdr] at hro
              have := ro_slice hro (sz := a2.n) (enc_rows _ a2 _) hLH (by omega)
              rw [map_slice, ← hz] at this
              simp only [SC.enc, hr, V.els, V.esz, V.len]
              refine .both _ _ _ (.sub _ _ _ _ _ ?_) (by rw [← hc.1]; exact this)
              have hlo' : loOf (ρ ++ [⟨.sl e2 a2, zs⟩]) lo' = L := by
                rw [hL]
                cases lo' with
                | none => rfl
                | some x1 =>
                  rcases optAtom_ok hlo with ⟨_, e0⟩ | ⟨_, _, _, _, e0, _, h2⟩
                  · cases e0
                  · cases e0
                    exact nat_app (by rw [hinv.len]; exact At.ty_lt (ty_ok h2))
              have hzl : zs.length = H - L := by rw [hz]; simp; omega
              rw [hlo', ← hdr, hzl, ← hc.1]; rfl
            · cases h
          · cases h
        | hn r i k x0 =>
          simp only [Except.ok.injEq] at h
          subst h
          refine key _ fun ρ w g zs A n cap L H a hinv hn hcap hLH hHn hL hz hcr hr => ?_
          have hro := list_ro hinv hcr hl hvt (fun r e0 => by cases e0)
          have := ro_slice hro (sz := b.n) (enc_rows _ b _) hLH (by omega)
          rw [map_slice, ← hz] at this
          simp only [SC.enc, hr, V.els]
          rw [← hc.1]; exact this
        | _ => cases h
    · cases h
  · cases h
end
end Go.Pu
