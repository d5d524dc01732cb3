/-
  Own work. Loads, fields, look-ups in maps.
-/
import Derived.Test.YtamaghlnjchhbaaPuI
namespace Go.Pu
open Go Go.RowKit
set_option linter.unusedVariables false

theorem cellsN_get {r : Nat} {i : At} {n : Nat} {ρ : Env} : ∀ (t : Ty) (k : Nat) (p : List Bool) (x : t.den) (m : Nat) (q : C), Ref.get ρ ⟨n, p⟩ = ⟨t, x⟩ → (encL ρ (cellsOfN r i n k p t))[m]? = some q →
    ∃ c c', (encE r (i.nat ρ) k t x)[m]? = some c ∧ (enc (some r) t x)[m]? = some c' ∧ (q = c ∨ q = .both c c')
  | .int kd, k, p, x, m, q, h, hq => by
    simp only [cellsOfN, encL, SC.enc, At.get, h, V.c] at hq
    exact ⟨q, q, hq, hq, .inl rfl⟩
  | .bool, k, p, x, m, q, h, hq => by
    simp only [cellsOfN, encL, SC.enc, At.get, h, V.c] at hq
    exact ⟨q, q, hq, hq, .inl rfl⟩
  | .unit, k, p, x, m, q, h, hq => by simp [cellsOfN, encL] at hq
  | .pr a b, k, p, x, m, q, h, hq => by
    simp only [cellsOfN, encL_app2] at hq
    have ha : Ref.get ρ ⟨n, p ++ [false]⟩ = ⟨a, x.1⟩ := by simp only [Ref.get, proj_app] at h ⊢; rw [h]; rfl
    have hb : Ref.get ρ ⟨n, p ++ [true]⟩ = ⟨b, x.2⟩ := by simp only [Ref.get, proj_app] at h ⊢; rw [h]; rfl
    have la := encE_length r (i.nat ρ) k a x.1
    have la' := enc_length (some r) a x.1
    have ln : ∀ (t : Ty) (k : Nat) (p : List Bool), (encL ρ (cellsOfN r i n k p t)).length = t.n := by
      intro t
      induction t with
      | pr a b iha ihb => intro k p; simp only [cellsOfN, encL_app2, List.length_append, iha, ihb, Ty.n]
      | _ => intro k p; simp [cellsOfN, encL, Ty.n]
    simp only [encE, enc]
    by_cases hm : m < a.n
    · rw [List.getElem?_append_left (by rw [ln]; exact hm)] at hq
      rw [List.getElem?_append_left (by omega), List.getElem?_append_left (by omega)]
      exact cellsN_get a k (p ++ [false]) x.1 m q ha hq
    · rw [List.getElem?_append_right (by rw [ln]; omega), ln] at hq
      rw [List.getElem?_append_right (by omega), List.getElem?_append_right (by omega), la, la']
      exact cellsN_get b (k + a.n) (p ++ [true]) x.2 (m - a.n) q hb hq
  | .sl e a, k, p, x, m, q, h, hq => by
    have hm : m = 0 := by
      have := (List.getElem?_eq_some_iff.1 hq).1
      simp [cellsOfN, encL] at this; exact this
    subst hm
    simp only [cellsOfN, encL, SC.enc, At.get, h, V.els, List.getElem?_cons_zero, Option.some.injEq] at hq
    exact ⟨_, _, rfl, rfl, .inr hq.symm⟩
  | .mp, k, p, x, m, q, h, hq => by
    simp only [cellsOfN, encL, SC.enc] at hq
    exact ⟨q, q, hq, hq, .inl rfl⟩

section
variable {X : Ctx} {D : Nat → Prop} {Γ : List FE} {st : St} {ρ : Env} {a : Act} {w : World} {g : G}
theorem clean_own (hi : TInv X D st ρ a w g) {r : Nat} {p : List (Nat × Nat)} {b : Nat} (hb : g.own b = some (r, p)) (h1 : p = [] → st.dirty.contains (r, false) = false) (h2 : p ≠ [] → st.dirty.contains (r, true) = false) : ¬ D b := fun hd => by
  obtain ⟨⟨r', f⟩, q, hm, ho, hf⟩ := hi.dirt b hd
  rw [hb] at ho
  simp only [Option.some.injEq, Prod.mk.injEq] at ho hf
  obtain ⟨rfl, rfl⟩ := ho
  by_cases hp : p = []
  · have hff : f = false := by
      cases f with
      | false => rfl
      | true => exact absurd hp (hf.1 rfl)
    subst hff
    have := h1 hp
    have hc : st.dirty.contains (r, false) = true := by simpa using hm
    rw [this] at hc; cases hc
  · have hff : f = true := hf.2 hp
    subst hff
    have := h2 hp
    have hc : st.dirty.contains (r, true) = true := by simpa using hm
    rw [this] at hc; cases hc
theorem clean_S (hi : TInv X D st ρ a w g) {b : Nat} (hb : g.S b) : ¬ D b := fun hd => by
  obtain ⟨p, q, _, ho, _⟩ := hi.dirt b hd
  exact (hi.inv.ok.own b _ ho).2.2 hb
variable {d : Nat} {x y : Operand} {t t' ty : TypeId} {ps : String} {af : Array Edge} {gd : Option (Nat × Bool)} {s : Step}
theorem rel_of_cls {o : Oper} {w w' : World} (hr : reads o.op = true) (h : Cls D o w w') : RelD D w w' := h hr
/-- A load of cells that are known. -/
theorem load_cells {P : Program} {ρ' : Env} {cells : List SC} {sv : SV} (h : loadCells' P t cells = .ok sv) {b o : Nat} {f : Nat → Value} (hD : ¬ D b) (hc : ∀ (k : Nat) (q : C), (encL ρ' cells)[k]? = some q → w.cell? ⟨b, o + k, none⟩ = some (f k) ∧ CRep w g q (f k)) {ρ : Operand → Value} (hx : ρ x = .pointer (some ⟨b, o, none⟩)) :
    ∃ v, (∀ w', Cls D ⟨some d, .load t x, ty, ps, af, gd⟩ w w' → (execOp ρ ⟨some d, .load t x, ty, ps, af, gd⟩).run P w' = .ok (.value v) w') ∧ PRep P w g (sv.enc ρ') v := by
  unfold loadCells' at h
  split at h
  · rename_i ha
    split at h
    · rename_i hlen
      simp only [Except.ok.injEq] at h
      subst h
      have hle : szOf P t ≤ cells.length := by have := hlen.1; simp at this; omega
      let vs := (List.range (szOf P t)).map f
      have hvl : vs.length = szOf P t := by simp [vs]
      have cell : ∀ (j : Nat) (v : Value), vs[j]? = some v → w.cell? ((⟨b, o, none⟩ : Addr).add j) = some v := fun j v hj => by
        obtain ⟨hj1, rfl⟩ := list_of_fun f j v hj
        rw [addr_add]
        exact (hc j _ (List.getElem?_eq_getElem (by rw [encL_map, List.length_map]; omega))).1
      refine ⟨.agg vs.toArray, fun w' hw' => ?_, vs.toArray, rfl, by rw [encL_map]; simp [vs]; omega, fun k q hq => ?_⟩
      · have hR := rel_of_cls rfl hw'
        have hr := run_load_agg (P := P) (w := w') ha hvl.symm hlen.2 (a := ⟨b, o, none⟩) (fun j v hj => hR.cell (by rw [addr_add]; exact hD) (cell j v hj))
        simp only [execOp, hx, Instr.loadAt, Instr.sureAddr, Sem.run_bind, Sem.run_pure, Result.andThen_ok, hr]
      · have hk : k < szOf P t := by
          have := (List.getElem?_eq_some_iff.1 hq).1
          rw [encL_map] at this; simp at this; omega
        have hq' : (encL ρ' cells)[k]? = some q := by
          rw [encL_map, List.map_take, List.getElem?_take, if_pos hk] at hq
          rw [encL_map]; exact hq
        exact ⟨f k, by simp [vs, hk], (hc k q hq').2⟩
    · cases h
  · rename_i ha
    split at h
    · rename_i c cs
      simp only [Except.ok.injEq] at h
      subst h
      obtain ⟨h1, h2⟩ := hc 0 (c.enc ρ') (by simp [encL])
      simp only [Nat.add_zero] at h1
      refine ⟨f 0, fun w' hw' => ?_, h2⟩
      have hR := rel_of_cls rfl hw'
      simp only [execOp, hx, Instr.loadAt, Instr.sureAddr, Sem.run_bind, Sem.run_pure, Result.andThen_ok, run_load_one ha (hR.cell (p := ⟨b, o, none⟩) hD h1)]
    · cases h
  · cases h
theorem drop_cells {ρ : Env} {cells : List SC} {k : Nat} {o : Nat} {f : Nat → Value} {b : Nat} (hc : ∀ (j : Nat) (q : C), (encL ρ cells)[j]? = some q → w.cell? ⟨b, o + j, none⟩ = some (f j) ∧ CRep w g q (f j)) :
    ∀ (j : Nat) (q : C), (encL ρ (cells.drop k))[j]? = some q → w.cell? ⟨b, (o + k) + j, none⟩ = some (f (k + j)) ∧ CRep w g q (f (k + j)) := fun j q hq => by
  rw [encL_map, List.map_drop, List.getElem?_drop] at hq
  rw [Nat.add_assoc]
  exact hc (k + j) q (by rw [encL_map]; exact hq)
theorem box_cells (hi : TInv X D st ρ a w g) {r : Nat} {e : TypeId} {cells : List SC} (hr : st.rk r = .box e cells) :
    ∃ (b base : Nat) (f : Nat → Value), g.hdr (r, []) = .pointer (some ⟨b, base, none⟩) ∧ g.own b = some (r, []) ∧ ∀ (j : Nat) (q : C), (encL ρ cells)[j]? = some q → w.cell? ⟨b, base + j, none⟩ = some (f j) ∧ CRep w g q (f j) := by
  have hrow : RowRep X.P w g (r, []) (.row true false e [encL ρ cells]) := hi.inv.row (r, []) _ (by simp only [hr, RK.rows])
  cases hrow with
  | full _ _ _ _ b base n cap cs f hf =>
    refine ⟨b, base, f 0, hf.hd, hf.own, fun j q hq => ⟨?_, hf.rep 0 _ j q rfl hq⟩⟩
    rw [cell_of_row w b _ cs e (0, 0) hf.heap]
    have := hf.cell 0 _ j q rfl hq
    simpa using this
theorem ad_box (hi : TInv X D st ρ a w g) {r : Nat} {e : TypeId} {k : Nat} {u : Value} (hp : PRep X.P w g (.ad (r, []) e 0 k) u) {b base : Nat} (hd : g.hdr (r, []) = .pointer (some ⟨b, base, none⟩)) : u = .pointer (some ⟨b, base + k, none⟩) := by
  obtain ⟨b', base', h1, h2⟩ := hp
  rw [hd] at h1
  rcases h1 with ⟨n, cap, h1⟩ | h1
  · cases h1
  · cases h1
    rw [h2]; simp
theorem load_ok (hN : d < X.N) (h : stepLoad X.P st d t x = .ok s) : QStep X D Γ st ⟨some d, .load t x, ty, ps, af, gd⟩ s := by
  unfold stepLoad at h
  obtain ⟨vx, hx, h⟩ := ok_bind h
  split at h
  · cases h
  · rename_i hcl0
    have hcl : st.clean vx = true := by simpa using hcl0
    clear hcl0
    split at h
    · rename_i r
      split at h
      · rename_i e cells hr
        obtain ⟨v, hv, h⟩ := ok_bind h
        simp only [Except.ok.injEq] at h
        subst h
        refine q_put rfl hN fun ρ a w g hi => ?_
        obtain ⟨b, base, f, hd, ho, hc⟩ := box_cells hi hr
        have hp := val_rep hi hx
        simp only [SV.enc, SC.enc] at hp
        simp only [St.clean, Bool.not_eq_true'] at hcl
        exact load_cells hv (clean_own hi ho (fun _ => hcl) (fun h => absurd rfl h)) hc ((hd_eq hp).trans hd)
      · cases h
    · rename_i rg cells
      obtain ⟨v, hv, h⟩ := ok_bind h
      simp only [Except.ok.injEq] at h
      subst h
      refine q_put rfl hN fun ρ a w g hi => ?_
      have hp := val_rep hi hx
      simp only [SV.enc, SC.enc] at hp
      generalize hxe : a.eval x = u at hp
      have hp : CRep w g (.rp rg (encL ρ cells)) u := hp
      cases hp with
      | rp _ _ b o f hS hcell hrep =>
        refine load_cells hv ?_ (fun k q hq => ⟨hcell k q hq, hrep k q hq⟩) hxe
        cases rg with
        | none => exact clean_S hi hS
        | some r =>
          simp only [St.clean, Bool.and_eq_true, Bool.not_eq_true'] at hcl
          rcases hS with hS | ⟨p, ho⟩
          · exact clean_S hi hS
          · exact clean_own hi ho (fun _ => hcl.1) (fun _ => hcl.2)
    · rename_i rg cells
      obtain ⟨v, hv, h⟩ := ok_bind h
      simp only [Except.ok.injEq] at h
      subst h
      refine q_put rfl hN fun ρ a w g hi => ?_
      obtain ⟨b, o, f, hS, hxe, hc⟩ := val_rep hi hx
      refine load_cells hv ?_ hc hxe
      cases rg with
      | none => exact clean_S hi hS
      | some r =>
        simp only [St.clean, Bool.and_eq_true, Bool.not_eq_true'] at hcl
        rcases hS with hS | ⟨p, ho⟩
        · exact clean_S hi hS
        · exact clean_own hi ho (fun _ => hcl.1) (fun _ => hcl.2)
    · rename_i r e i k
      simp only [St.clean, Bool.not_eq_true'] at hcl
      split at h
      · rename_i e' cells hr
        split at h
        · cases h
        · rename_i hc
          obtain ⟨rfl, rfl⟩ : e = e' ∧ i = .int .i64 0 := ⟨Decidable.of_not_not fun h => hc (.inl h), Decidable.of_not_not fun h => hc (.inr h)⟩
          obtain ⟨v, hv, h⟩ := ok_bind h
          simp only [Except.ok.injEq] at h
          subst h
          refine q_put rfl hN fun ρ a w g hi => ?_
          obtain ⟨b, base, f, hd, ho, hc⟩ := box_cells hi hr
          have hp := val_rep hi hx
          have hxe := ad_box hi (by simpa [SV.enc, At.nat, At.get, V.int] using hp) hd
          exact load_cells hv (clean_own hi ho (fun _ => hcl) (fun h => absurd rfl h)) (drop_cells hc) hxe
      · rename_i e' b v nl inner hr
        split at h
        · cases h
        · rename_i hc
          have hc1 : e = e' := Decidable.of_not_not fun h => hc (.inl h)
          subst hc1
          have hvt : v.ty st.ts = some (.sl e b) := Decidable.of_not_not fun h => hc (.inr (.inl h))
          have hbn : b.n = szOf X.P e := Decidable.of_not_not fun h => hc (.inr (.inr (.inl h)))
          have hin : inner = none → b.flat1 = true := fun h0 => by
            cases hf : b.flat1 with
            | true => rfl
            | false => exact absurd (.inr (.inr (.inr (.inl ⟨h0, hf⟩)))) hc
          have hil : i.lt st.ts.length = true := by
            cases hf : i.lt st.ts.length with
            | true => rfl
            | false => exact absurd (.inr (.inr (.inr (.inr (by rw [hf]; rfl))))) hc
          obtain ⟨u, hu, h⟩ := ok_bind h
          simp only [Except.ok.injEq] at h
          subst h
          refine q_bind rfl hN fun ρ a w g v' hi hv' => ?_
          have hvg := V.list_of (At.ty_get hi.typ hvt)
          have hrow := row_of hi hr
          generalize hxs : (v.get ρ).as (.sl e b) = xs at hrow hvg
          simp only [Ex.den1, Ex.den, hvg, Option.bind_eq_some_iff, Option.some.injEq] at hv'
          obtain ⟨z, hz, rfl⟩ := hv'
          obtain ⟨q0, q1, q2⟩ := gget_ok hz
          obtain ⟨b', base', hd1, hxe⟩ := val_rep hi hx
          generalize hels : (xs.mapIdx fun i y => encIn inner r i b y) = els at hrow
          have hget : els[(i.get ρ).int.toNat]? = some (encIn inner r (i.get ρ).int.toNat b z) := by rw [← hels, List.getElem?_mapIdx, q2]; rfl
          cases hrow with
          | nil => simp at hget
          | zero => simp at hget
          | full _ _ _ _ bb base n cap cs f hf =>
            have hbb : b' = bb ∧ base' = base := by
              have hd := hf.hd
              rw [hd] at hd1
              rcases hd1 with ⟨_, _, h1⟩ | h1 <;> simp [hdrOf] at h1
              exact ⟨h1.1.1.symm, h1.1.2.symm⟩
            obtain ⟨rfl, rfl⟩ := hbb
            have hval : Ref.get (ρ ++ [⟨b, z⟩]) ⟨st.nx, []⟩ = ⟨b, z⟩ := by
              have : (st.ref).get (ρ ++ [⟨b, z⟩]) = ⟨b, z⟩ := ref_get hi.len
              exact this
            have hin' : At.nat (ρ ++ [⟨b, z⟩]) i = (i.get ρ).int.toNat := nat_app (by rw [hi.len]; exact hil)
            have hcell : ∀ (m : Nat) (c : C), (encIn inner r (i.get ρ).int.toNat b z)[m]? = some c → w.cell? ⟨b', base' + ((i.get ρ).int.toNat * szOf X.P e + m), none⟩ = some (f (i.get ρ).int.toNat m) ∧ CRep w g c (f (i.get ρ).int.toNat m) := fun m c hm => by
              refine ⟨?_, hf.rep _ _ m c hget hm⟩
              rw [cell_of_row w b' _ cs e (0, 0) hf.heap]
              exact hf.cell _ _ m c hget hm
            have hall : ∀ (m : Nat) (q : C), (encL (ρ ++ [⟨b, z⟩]) (elemCells inner r i st.nx b))[m]? = some q →
                w.cell? ⟨b', (base' + (i.get ρ).int.toNat * szOf X.P e) + m, none⟩ = some (f (i.get ρ).int.toNat m) ∧ CRep w g q (f (i.get ρ).int.toNat m) := fun m q hq => by
              rw [Nat.add_assoc]
              cases inner with
              | some rg =>
                simp only [elemCells] at hq
                rw [cellsOf_enc rg _ _ b [] z hval] at hq
                exact hcell m q hq
              | none =>
                simp only [elemCells] at hq
                obtain ⟨c, c', h1, h2, h3⟩ := cellsN_get b 0 [] z m q hval hq
                rw [hin'] at h1
                obtain ⟨h4, h5⟩ := hcell m c h1
                refine ⟨h4, ?_⟩
                rcases h3 with rfl | rfl
                · exact h5
                · exact .both _ _ _ h5 (lend_cell b 0 z (hin rfl) (fun j row hj => sub_of hi hr (by rw [hxs]; exact q2) hj) m c c' _ h1 h2 h5)
            have hxe' : a.eval x = .pointer (some ⟨b', (base' + (i.get ρ).int.toNat * szOf X.P e) + k, none⟩) := by rw [hxe, Nat.add_assoc]; rfl
            obtain ⟨v, hv1, hv2⟩ := load_cells (D := D) (d := d) (ty := ty) (ps := ps) (af := af) (gd := gd) hu (clean_own hi hf.own (fun _ => hcl) (fun h => absurd rfl h)) (drop_cells (k := k) hall) hxe'
            exact ⟨rfl, v, hv1, fun _ _ => hv2⟩
      · cases h
    · cases h
theorem field_ok {fi : Nat} (hN : d < X.N) (h : stepField X.P st d t x fi = .ok s) : QStep X D Γ st ⟨some d, .field t x fi, ty, ps, af, gd⟩ s := by
  unfold stepField at h
  split at h
  · cases h
  · rename_i off sz hf
    obtain ⟨v, hx, h⟩ := ok_bind h
    split at h
    · rename_i cells
      split at h
      · rename_i fs hu
        split at h
        · rename_i f hfi
          obtain ⟨u, hl, h⟩ := ok_bind h
          simp only [Except.ok.injEq] at h
          subst h
          have hoff : off = f.offset := by
            unfold fldOf at hf
            rw [hu] at hf
            simp only [hfi, Option.some.injEq, Prod.mk.injEq] at hf
            exact hf.1.symm
          subst hoff
          refine q_put rfl hN fun ρ a w g hi => ?_
          obtain ⟨vs, h1, h2, h3⟩ := val_rep hi hx
          have hget : ∀ (k : Nat) (q : C), (encL ρ (cells.drop f.offset))[k]? = some q → ∃ u, vs[f.offset + k]? = some u ∧ CRep w g q u := fun k q hq => by
            rw [encL_map, List.map_drop, List.getElem?_drop] at hq
            exact h3 _ q (by rw [encL_map]; exact hq)
          unfold loadCells' at hl
          split at hl
          · rename_i ha
            split at hl
            · rename_i hlen
              simp only [Except.ok.injEq] at hl
              subst hl
              have hle : f.offset + szOf X.P f.type ≤ vs.size := by
                rw [h2, encL_map, List.length_map]
                have := hlen.1; simp at this; omega
              refine ⟨.agg (vs.extract f.offset (f.offset + szOf X.P f.type)), fun w' _ => ?_, _, rfl, by rw [encL_map]; simp; have := hlen.1; simp at this; omega, fun k q hq => ?_⟩
              · simp [execOp, h1, Instr.field, run_underlying hu, hfi, part, asAgg, aggOf_some ha, run_sizeOf hlen.2]
              · have hk : k < szOf X.P f.type := by
                  have := (List.getElem?_eq_some_iff.1 hq).1
                  rw [encL_map] at this; simp at this; omega
                obtain ⟨u, hu1, hu2⟩ := hget k q (by
                  rw [encL_map, List.map_take, List.getElem?_take, if_pos hk] at hq
                  rw [encL_map]; exact hq)
                refine ⟨u, ?_, hu2⟩
                rw [Array.getElem?_extract]
                rw [if_pos (by omega)]; exact hu1
            · cases hl
          · rename_i ha
            split at hl
            · rename_i c cs hc
              simp only [Except.ok.injEq] at hl
              subst hl
              obtain ⟨u, hu1, hu2⟩ := hget 0 (c.enc ρ) (by rw [hc]; simp [encL])
              simp only [Nat.add_zero] at hu1
              refine ⟨u, fun w' _ => ?_, hu2⟩
              simp [execOp, h1, Instr.field, run_underlying hu, hfi, part, asAgg, aggOf_some ha, hu1]
            · cases hl
          · cases hl
        · cases h
      · cases h
    · cases h

/-! ### Maps, function values -/
theorem findNow_int (k : Int) : ∀ (es : List MapEntry) (kvs : List (Int × Bool)) (i : Nat), es.map (fun e => (e.key, e.val)) = kvs.map (fun kv => (Value.int .i64 kv.1, Value.bool kv.2)) → ∀ (kd : IntKind),
    Instr.findNow (.int kd) (.int .i64 k) es i = some (match kvs.findIdx? (fun e => e.1 == k) with | some j => some (i + j, .bool (kvs.getD j (0, false)).2) | none => none)
  | [], [], i, h, kd => by simp [Instr.findNow]
  | e :: es, kv :: kvs, i, h, kd => by
    simp only [List.map_cons, List.cons.injEq, Prod.mk.injEq] at h
    obtain ⟨⟨h1, h2⟩, h3⟩ := h
    simp only [Instr.findNow, h1, Instr.sameNow, if_true]
    by_cases hk : k = kv.1
    · have : (k == kv.1) = true := by simp [hk]
      rw [this]
      simp only [List.findIdx?_cons]
      have : (kv.1 == k) = true := by simp [hk]
      simp [this, h2]
    · have h4 : (k == kv.1) = false := by simp [hk]
      have h5 : (kv.1 == k) = false := by simp; exact fun e => hk e.symm
      rw [h4]
      simp only [List.findIdx?_cons, h5]
      rw [findNow_int k es kvs (i + 1) h3 kd]
      cases kvs.findIdx? (fun e => e.1 == k) with
      | none => simp
      | some j => simp; omega
  | [], _ :: _, _, h, _ => by simp at h
  | _ :: _, [], _, h, _ => by simp at h
theorem mget_idx (m : List (Int × Bool)) (k : Int) : mget m k = match m.findIdx? (fun e => e.1 == k) with | some j => (m.getD j (0, false)).2 | none => false := by
  unfold mget
  induction m with
  | nil => rfl
  | cons e m ih =>
    simp only [List.find?_cons, List.findIdx?_cons]
    cases h : (e.1 == k) with
    | true => simp
    | false =>
      simp only
      rw [ih]
      cases hf : m.findIdx? (fun e => e.1 == k) with
      | none => simp
      | some j => simp
theorem makeFunc_ok {f : FuncId} {first caps : Array Operand} (hN : d < X.N) (h : stepMakeFunc st d f first caps = .ok s) : QStep X D Γ st ⟨some d, .makeFunc (.func f) first caps, ty, ps, af, gd⟩ s := by
  unfold stepMakeFunc at h
  split at h
  · cases h
  · rename_i hf
    have hf : first = #[] := Array.eq_empty_of_size_eq_zero (Decidable.of_not_not hf)
    subst hf
    obtain ⟨vs, hvs, h⟩ := ok_bind h
    obtain ⟨cs, hcs, h⟩ := ok_bind h
    simp only [Except.ok.injEq] at h
    subst h
    refine q_put rfl hN fun ρ a w g hi => ?_
    refine ⟨.func (.func f) #[] (caps.map a.eval), fun w' _ => by simp [execOp, Instr.makeFunc], ?_⟩
    have key : ∀ (os : List Operand) (vs : List SV) (cs : List SC), os.mapM st.val = .ok vs → vs.mapM svC = .ok cs →
        os.length = cs.length ∧ ∀ (k : Nat) (q : C), (encL ρ cs)[k]? = some q → CRep w g q ((os.map a.eval).getD k undef) := by
      intro os
      induction os with
      | nil =>
        intro vs cs h1 h2
        simp only [List.mapM_nil] at h1
        cases h1
        simp only [List.mapM_nil] at h2
        cases h2
        exact ⟨rfl, fun k q hq => by simp [encL] at hq⟩
      | cons o os ih =>
        intro vs cs h1 h2
        rw [List.mapM_cons] at h1
        obtain ⟨v, hv, h1⟩ := ok_bind h1
        obtain ⟨vs', hvs', h1⟩ := ok_bind h1
        cases h1
        rw [List.mapM_cons] at h2
        obtain ⟨c, hc, h2⟩ := ok_bind h2
        obtain ⟨cs', hcs', h2⟩ := ok_bind h2
        cases h2
        obtain ⟨l1, l2⟩ := ih vs' cs' hvs' hcs'
        refine ⟨by simp [l1], fun k q hq => ?_⟩
        cases k with
        | zero =>
          simp only [encL, List.getElem?_cons_zero, Option.some.injEq] at hq
          subst hq
          unfold svC at hc
          split at hc
          · cases hc
            exact val_rep hi hv
          · cases hc
        | succ k => exact l2 k q (by simpa [encL] using hq)
    obtain ⟨l1, l2⟩ := key caps.toList vs cs hvs hcs
    refine .fn f (encL ρ cs) _ (by rw [encL_map]; simp; simpa using l1) fun k q hq => ?_
    have := l2 k q hq
    rw [List.getD_eq_getElem?_getD, List.getElem?_map, Array.getElem?_toList] at this
    rw [Array.getD_eq_getD_getElem?, Array.getElem?_map]
    exact this
end
end Go.Pu
