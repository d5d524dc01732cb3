/-
  Own work. The operations that read memory, and addresses.
-/
import Derived.Test.YtamaghlnjchhbaaPuG
namespace Go.Pu
open Go Go.RowKit
set_option linter.unusedVariables false

theorem addr_add (b off j : Nat) : (⟨b, off, none⟩ : Addr).add j = ⟨b, off + j, none⟩ := by
  unfold Addr.add
  split
  · rename_i h; subst h; rfl
  · rfl
section
variable {P : Program} {w : World}
theorem info_of_sz {t : TypeId} {n : Nat} (h : szOf P t = n + 1) : ∃ i, P.info? t = some i ∧ i.size = n + 1 := by
  unfold szOf at h
  cases hi : P.info? t with
  | none => simp [hi] at h
  | some i => rw [hi] at h; exact ⟨i, rfl, h⟩
theorem run_sizeOf {t : TypeId} (h : 0 < szOf P t) : (sizeOf t).run P w = .ok (szOf P t) w := by
  obtain ⟨n, hn⟩ : ∃ n, szOf P t = n + 1 := ⟨szOf P t - 1, by omega⟩
  obtain ⟨i, hi, hs⟩ := info_of_sz hn
  rw [hn]
  simp [sizeOf, typeInfo, hi, hs]
theorem aggOf_some {t : TypeId} {b : Bool} (h : aggOf P t = some b) : (isAgg t).run P w = .ok b w := by
  unfold aggOf at h
  cases hu : P.underlying t with
  | none => simp [hu] at h
  | some d => cases d <;> simp [hu] at h <;> subst h <;> simp [isAgg, run_underlying hu]
theorem run_load_one {t : TypeId} (h0 : aggOf P t = some false) {a : Addr} {v : Value} (hc : w.cell? a = some v) : (loadVar t a).run P w = .ok v w := by
  simp [loadVar, aggOf_some h0, run_load, hc]
theorem run_load_agg {t : TypeId} {cs : List Value} (h : aggOf P t = some true) (hs : szOf P t = cs.length) (h0 : 0 < szOf P t) {a : Addr} (hc : ∀ (j : Nat) (v : Value), cs[j]? = some v → w.cell? (a.add j) = some v) :
    (loadVar t a).run P w = .ok (.agg cs.toArray) w := by
  have hl := run_loadCells_list (P := P) w a cs hc
  have h2 : (sizeOf t).run P w = .ok cs.length w := by rw [← hs]; exact run_sizeOf h0
  simp [loadVar, aggOf_some h, h2, hl]
theorem run_fieldAt {t : TypeId} {fi off n : Nat} (h : fldOf P t fi = some (off, n)) (hn : n ≠ 0) (a : Addr) : (Instr.fieldAt t (.pointer (some a)) fi).run P w = .ok (.pointer (some (a.add off))) w := by
  unfold fldOf at h
  cases hu : P.underlying t with
  | none => simp [hu] at h
  | some d =>
    cases d <;> simp [hu] at h
    rename_i fs
    cases hf : fs[fi]? with
    | none => simp [hf] at h
    | some f =>
      simp only [hf, Option.some.injEq, Prod.mk.injEq] at h
      have hs := run_sizeOf (P := P) (w := w) (t := f.type) (by omega)
      have h0 : ¬ szOf P f.type = 0 := by omega
      simp [Instr.fieldAt, run_underlying hu, hf, Instr.sureAddr, fieldPlace, hs, h.1, h0]
theorem run_indexAt {t e : TypeId} (h : elemOf P t = some e) (hs : 0 < szOf P e) (a : Addr) (len cap : Nat) (z : Int) (h0 : 0 ≤ z) (h1 : z < (len : Int)) :
    (Instr.indexAt t (.slice (some a) len cap) (.int .i64 z)).run P w = .ok (.pointer (some (a.add (z.toNat * szOf P e)))) w := by
  have hu := elem_under h
  simp [Instr.indexAt, asIntOf, run_underlying hu, h0, h1, run_sizeOf hs]
theorem list_of_fun {n : Nat} (f : Nat → Value) (j : Nat) (v : Value) (h : ((List.range n).map f)[j]? = some v) : j < n ∧ v = f j := by
  simp only [List.getElem?_map, Option.map_eq_some_iff] at h
  obtain ⟨a, ha, rfl⟩ := h
  rw [List.getElem?_eq_some_iff] at ha
  obtain ⟨h1, h2⟩ := ha
  simp at h1 h2
  exact ⟨h1, by rw [h2]⟩
end

/-! ### Cells of an element -/
theorem vu_proj (p : List Bool) : V.u.proj p = V.u := by
  cases p with
  | nil => rfl
  | cons b p => simp [V.u, V.proj]
theorem proj_app : ∀ (p q : List Bool) (v : V), v.proj (p ++ q) = (v.proj p).proj q
  | [], q, v => by cases v; rfl
  | false :: p, q, ⟨.pr a b, x⟩ => by simp only [List.cons_append, V.proj]; exact proj_app p q _
  | true :: p, q, ⟨.pr a b, x⟩ => by simp only [List.cons_append, V.proj]; exact proj_app p q _
  | _ :: p, q, ⟨.int _, _⟩ => by simp only [List.cons_append, V.proj, vu_proj]
  | _ :: p, q, ⟨.bool, _⟩ => by simp only [List.cons_append, V.proj, vu_proj]
  | _ :: p, q, ⟨.unit, _⟩ => by simp only [List.cons_append, V.proj, vu_proj]
  | _ :: p, q, ⟨.sl _ _, _⟩ => by simp only [List.cons_append, V.proj, vu_proj]
  | _ :: p, q, ⟨.mp, _⟩ => by simp only [List.cons_append, V.proj, vu_proj]
theorem encL_app2 (ρ : Env) (xs ys : List SC) : encL ρ (xs ++ ys) = encL ρ xs ++ encL ρ ys := by simp only [encL_map, List.map_append]
theorem cellsOf_enc (rg : Rg) (n : Nat) (ρ : Env) : ∀ (t : Ty) (p : List Bool) (x : t.den), (Ref.get ρ ⟨n, p⟩) = ⟨t, x⟩ → encL ρ (cellsOf rg n p t) = enc rg t x
  | .int k, p, x, h => by simp only [cellsOf, encL, SC.enc, At.get, h, V.c, enc]
  | .bool, p, x, h => by simp only [cellsOf, encL, SC.enc, At.get, h, V.c, enc]
  | .unit, p, x, h => by simp only [cellsOf, encL, enc]
  | .pr a b, p, x, h => by
    simp only [cellsOf, encL_app2, enc]
    rw [cellsOf_enc rg n ρ a (p ++ [false]) x.1 (by simp only [Ref.get, proj_app] at h ⊢; rw [h]; rfl), cellsOf_enc rg n ρ b (p ++ [true]) x.2 (by simp only [Ref.get, proj_app] at h ⊢; rw [h]; rfl)]
  | .sl e a, p, x, h => by simp only [cellsOf, encL, SC.enc, At.get, h, V.els, enc]
  | .mp, p, x, h => by simp only [cellsOf, encL, SC.enc, enc]

section
variable {X : Ctx} {D : Nat → Prop} {Γ : List FE} {st : St} {ρ : Env} {a : Act} {w : World} {g : G}
/-- What a slice's header says, and its cells, where it is only looked at. -/
inductive LV (w : World) (g : G) (els : List (List C)) : Value → Prop
  | mk (A : Option Addr) (n cap : Nat) (hn : n = els.length) : LV w g els (.slice A n cap)
theorem ro_len {rg : Rg} {els : List (List C)} {u : Value} (h : CRep w g (.ro rg els) u) : LV w g els u := by
  cases h with
  | ro0 _ A cap => exact .mk A 0 cap rfl
  | ro _ _ b off n cap s f hn => exact .mk _ n cap hn
theorem row_len {P : Program} {l : Loc} {nl : Bool} {e : TypeId} {els : List (List C)} (h : RowRep P w g l (.row false nl e els)) : LV w g els (g.hdr l) := by
  cases h with
  | nil _ _ hd => rw [hd]; exact .mk none 0 0 rfl
  | zero _ A hd => rw [hd]; exact .mk _ 0 0 rfl
  | full _ _ _ _ b base n cap cs f hf => rw [hf.hd]; exact .mk _ n cap hf.len
theorem hd_eq {l : Loc} {u : Value} (h : CRep w g (.hd l) u) : u = g.hdr l := by cases h; assumption
theorem both_l {x y : C} {u : Value} (h : CRep w g (.both x y) u) : CRep w g x u := by cases h; assumption
theorem both_r {x y : C} {u : Value} (h : CRep w g (.both x y) u) : CRep w g y u := by cases h; assumption
theorem els_of {v : At} {e : TypeId} {b : Ty} {rg : Rg} (hi : TInv X D st ρ a w g) (ht : st.ty v = .ok (.sl e b)) : (v.get ρ).els rg = List.map (enc rg b) ((v.get ρ).as (.sl e b)) := by
  have := V.list_of (ty_get hi ht)
  rw [this]
  simp [V.els, V.as]
/-- A slice that is only read. -/
theorem list_ro (hi : TInv X D st ρ a w g) {c : SC} {v : At} {e : TypeId} {b : Ty} {u : Value} (hc : CRep w g (c.enc ρ) u) (hl : st.listVal c = .ok v) (ht : st.ty v = .ok (.sl e b)) :
    (∀ r, c ≠ .h r) → CRep w g (.ro (regOf c) (List.map (enc (regOf c) b) ((v.get ρ).as (.sl e b)))) u := by
  intro hne
  unfold St.listVal at hl
  split at hl
  · simp only [Except.ok.injEq] at hl; subst hl
    simp only [SC.enc, els_of hi ht] at hc; exact hc
  · simp only [Except.ok.injEq] at hl; subst hl
    simp only [SC.enc, els_of hi ht] at hc; exact both_r hc
  · simp only [Except.ok.injEq] at hl; subst hl
    simp only [SC.enc, els_of hi ht] at hc; exact both_r hc
  · rename_i r; exact absurd rfl (hne r)
  · cases hl
theorem listVal_h {r : Nat} {v : At} (hl : st.listVal (.h r) = .ok v) : ∃ e b nl inner, st.rk r = .list e b v nl inner ∧ v.ty st.ts = some (.sl e b) := by
  simp only [St.listVal] at hl
  split at hl
  · rename_i e b val nl inner hr
    split at hl
    · rename_i hv
      simp only [Except.ok.injEq] at hl
      subst hl
      exact ⟨e, b, nl, inner, hr, hv⟩
    · cases hl
  · cases hl
theorem len_of {v : At} {e : TypeId} {b : Ty} (hi : TInv X D st ρ a w g) (ht : st.ty v = .ok (.sl e b)) : (v.get ρ).len = ((v.get ρ).as (.sl e b)).length := by
  have := V.list_of (ty_get hi ht)
  rw [this]
  simp [V.len, V.as]
theorem ok_ty {v : At} {t : Ty} (h : v.ty st.ts = some t) : st.ty v = .ok t := by unfold St.ty; rw [h]
theorem ty_inj {v : At} {t t' : Ty} (h : st.ty v = .ok t) (h' : st.ty v = .ok t') : t = t' := by rw [h] at h'; exact Except.ok.inj h'
theorem list_len (hi : TInv X D st ρ a w g) {c : SC} {v : At} {e : TypeId} {b : Ty} {u : Value} (hc : CRep w g (c.enc ρ) u) (hl : st.listVal c = .ok v) (ht : st.ty v = .ok (.sl e b)) :
    ∃ A cap, u = .slice A (v.get ρ).len cap := by
  by_cases hh : ∃ r, c = .h r
  · obtain ⟨r, rfl⟩ := hh
    obtain ⟨e', b', nl, inner, hr, hv⟩ := listVal_h hl
    simp only [SC.enc] at hc
    rw [hd_eq hc]
    have hrow := row_len (row_of hi hr)
    rw [len_of hi (ok_ty hv)]
    generalize g.hdr (r, []) = u' at hrow
    cases hrow with
    | mk A n cap hn => simp only [List.length_mapIdx] at hn; subst hn; exact ⟨A, cap, rfl⟩
  · have := ro_len (list_ro hi hc hl ht (fun r hr => hh ⟨r, hr⟩))
    rw [len_of hi ht]
    cases this with
    | mk A n cap hn => simp only [List.length_map] at hn; subst hn; exact ⟨A, cap, rfl⟩

variable {d : Nat} {x y : Operand} {t t' ty : TypeId} {ps : String} {af : Array Edge} {gd : Option (Nat × Bool)} {s : Step}
theorem run_len {P : Program} {w : World} {ρ : Operand → Value} {A : Option Addr} {n cap : Nat} (he : elemOf P t ≠ none) (hx : ρ x = .slice A n cap) :
    (execOp ρ ⟨some d, .call { callee := .builtin .len, args := #[x], argTypes := #[t] }, ty, ps, af, gd⟩).run P w = .ok (.value (.int .i64 (n : Int))) w := by
  obtain ⟨e, he⟩ := Option.ne_none_iff_exists'.1 he
  have hu := elem_under he
  simp [execOp, resolve, invoke, builtin, Builtin.len_, hx, run_underlying hu, goInt]
theorem len_ok (hN : d < X.N) (h : stepLen X.P st d t x = .ok s) : QStep X D Γ st ⟨some d, .call { callee := .builtin .len, args := #[x], argTypes := #[t] }, ty, ps, af, gd⟩ s := by
  unfold stepLen at h
  split at h
  · cases h
  · rename_i e he
    have he' : elemOf X.P t ≠ none := by rw [he]; exact Option.some_ne_none _
    obtain ⟨v, hv, h⟩ := ok_bind h
    split at h
    · simp only [Except.ok.injEq] at h
      subst h
      refine q_put rfl hN fun ρ a w g hi => ?_
      have hp := val_rep hi hv
      simp only [SV.enc, SC.enc] at hp
      have hx : a.eval x = .slice none 0 0 := by
        generalize Act.eval _ x = u at hp
        cases hp; rfl
      exact ⟨_, fun w' _ => run_len he' hx, .int _ _⟩
    · rename_i y hy
      obtain ⟨v, hl, h⟩ := ok_bind h
      obtain ⟨tv, ht, h⟩ := ok_bind h
      split at h
      · simp only [Except.ok.injEq] at h
        subst h
        refine q_step1 rfl hN fun ρ a w g v' hi hv' => ?_
        simp only [Ex.den1, Ex.den, Option.some.injEq] at hv'
        subst hv'
        have hp := val_rep hi hv
        obtain ⟨A, cap, hx⟩ := list_len hi hp hl ht
        exact ⟨rfl, _, fun w' _ => run_len he' hx, .int _ _⟩
      · cases h
    · cases h

/-! ### Addresses -/
theorem at_int_nat (ρ : Env) (k : IntKind) (z : Int) : At.nat ρ (.int k z) = z.toNat := rfl
theorem fieldAddr_ok {fi : Nat} (hN : d < X.N) (h : stepFieldAddr X.P st d t x fi = .ok s) : QStep X D Γ st ⟨some d, .fieldAddr t x fi, ty, ps, af, gd⟩ s := by
  unfold stepFieldAddr at h
  split at h
  · cases h
  · rename_i off sz hf
    split at h
    · cases h
    · rename_i hsz
      obtain ⟨v, hv, h⟩ := ok_bind h
      have run : ∀ {ρ : Operand → Value} {w : World} {b o : Nat}, ρ x = .pointer (some ⟨b, o, none⟩) → (execOp ρ ⟨some d, .fieldAddr t x fi, ty, ps, af, gd⟩).run X.P w = .ok (.value (.pointer (some ⟨b, o + off, none⟩))) w := fun hx => by
        simp only [execOp, hx, Sem.run_bind, run_fieldAt hf hsz, addr_add, Sem.run_pure, Result.andThen_ok]
      split at h
      · rename_i r
        split at h
        · rename_i e cells hr
          simp only [Except.ok.injEq] at h
          subst h
          refine q_put rfl hN fun ρ a w g hi => ?_
          have hp := val_rep hi hv
          simp only [SV.enc, SC.enc] at hp
          have hx := hd_eq hp
          have hrow : RowRep X.P w g (r, []) (.row true false e [encL ρ cells]) := hi.inv.row (r, []) _ (by simp only [hr, RK.rows])
          cases hrow with
          | full _ _ _ _ b base n cap cs f hf' =>
            have hd : g.hdr (r, []) = .pointer (some ⟨b, base, none⟩) := hf'.hd
            refine ⟨_, fun w' _ => run (hx.trans hd), b, base, .inr hd, ?_⟩
            simp [At.nat, At.get, V.int]
        · cases h
      · rename_i r e i k
        simp only [Except.ok.injEq] at h
        subst h
        refine q_put rfl hN fun ρ a w g hi => ?_
        obtain ⟨b, base, hd, hx⟩ := val_rep hi hv
        refine ⟨_, fun w' _ => run hx, b, base, hd, ?_⟩
        simp [Nat.add_assoc]
      · rename_i rg cells
        simp only [Except.ok.injEq] at h
        subst h
        refine q_put rfl hN fun ρ a w g hi => ?_
        obtain ⟨b, o, f, hS, hx, hc⟩ := val_rep hi hv
        refine ⟨_, fun w' _ => run hx, b, o + off, fun j => f (off + j), hS, rfl, fun k q hq => ?_⟩
        rw [encL_map, List.map_drop, List.getElem?_drop] at hq
        rw [Nat.add_assoc]
        exact hc (off + k) q (by rw [encL_map]; exact hq)
      · rename_i rg cells
        simp only [Except.ok.injEq] at h
        subst h
        refine q_put rfl hN fun ρ a w g hi => ?_
        have hp := val_rep hi hv
        simp only [SV.enc, SC.enc] at hp
        generalize hx : a.eval x = u at hp
        have hp : CRep w g (.rp rg (encL ρ cells)) u := hp
        cases hp with
        | rp _ _ b o f hS hcell hrep =>
          refine ⟨_, fun w' _ => run hx, b, o + off, fun j => f (off + j), hS, rfl, fun k q hq => ?_⟩
          rw [encL_map, List.map_drop, List.getElem?_drop] at hq
          rw [Nat.add_assoc]
          exact ⟨hcell (off + k) q (by rw [encL_map]; exact hq), hrep (off + k) q (by rw [encL_map]; exact hq)⟩
      · cases h
theorem gget_ok {α : Type} {d : α} {xs : List α} {i : Int} {y : α} (h : gget d xs i = some y) : 0 ≤ i ∧ i < (xs.length : Int) ∧ xs[i.toNat]? = some y := by
  unfold gget at h
  split at h
  · rename_i hi
    simp only [Option.some.injEq] at h
    refine ⟨hi.1, hi.2, ?_⟩
    have hlt : i.toNat < xs.length := by omega
    rw [List.getD, List.getElem?_eq_getElem hlt] at h
    rw [List.getElem?_eq_getElem hlt, ← h]; rfl
  · cases h
theorem gin_ok {n : Nat} {i : Int} {u : Unit} (h : gin n i = some u) : 0 ≤ i ∧ i < (n : Int) := by
  unfold gin at h
  split at h
  · assumption
  · cases h
theorem idx_own {i : At} {k0 : IntKind} (hN : d < X.N) {r : Nat} {e : TypeId} {b : Ty} {v : At} (hx : st.val x = .ok (.c (.h r))) (hy : st.val y = .ok (.c (.v i))) (hyt : st.ty i = .ok (.int .i64)) (he : elemOf X.P t = some e) (hn : b.n = szOf X.P e) (hpos : 0 < b.n) (hvt : v.ty st.ts = some (.sl e b))
    (hrow : ∀ ρ a w g, TInv X D st ρ a w g → ∃ nl els, RowRep X.P w g (r, []) (.row false nl e els) ∧ els.length = ((v.get ρ).as (.sl e b)).length) :
    QStep X D Γ st ⟨some d, .indexAddr t x y, ty, ps, af, gd⟩ ⟨[(.idx v i, .unit)], (st.bind .unit).put d (.ad r e i 0)⟩ :=
  q_bind rfl hN fun ρ a w g v' hi hv' => by
    simp only [Ex.den1, Ex.den, Option.bind_eq_some_iff, Option.some.injEq] at hv'
    obtain ⟨_, hgi, rfl⟩ := hv'
    obtain ⟨h0, h1⟩ := gin_ok hgi
    rw [len_of hi (ok_ty hvt)] at h1
    obtain ⟨nl, els, hr, hlen⟩ := hrow ρ a w g hi
    have hp := val_rep hi hx
    simp only [SV.enc, SC.enc] at hp
    have hxe := hd_eq hp
    have hye := val_int hi hy hyt
    cases hr with
    | nil => simp only [List.length_nil] at hlen; omega
    | zero => simp only [List.length_nil] at hlen; omega
    | full _ _ _ _ bb base n cap cs f hf =>
      refine ⟨rfl, .pointer (some ⟨bb, base + (i.get ρ).int.toNat * szOf X.P e, none⟩), fun w' _ => ?_, fun hi' hr' => ?_⟩
      · have hd : g.hdr (r, []) = .slice (some ⟨bb, base, none⟩) n cap := hf.hd
        have := hf.len
        simp only [execOp, hxe.trans hd, hye, Sem.run_bind, run_indexAt he (by omega : 0 < szOf X.P e) ⟨bb, base, none⟩ n cap _ h0 (by omega), addr_add, Sem.run_pure, Result.andThen_ok]
      · refine ⟨bb, base, .inl ⟨_, _, hf.hd⟩, ?_⟩
        have : At.nat (ρ ++ [V.u]) i = (i.get ρ).int.toNat := by
          rw [nat_app (by rw [hi.len]; exact At.ty_lt (ty_ok hyt))]; rfl
        rw [this]; simp
theorem idx_ro {i : At} (hN : d < X.N) {c : SC} {e e' : TypeId} {b : Ty} {v : At} (hx : st.val x = .ok (.c c)) (hne : ∀ r, c ≠ .h r) (hl : st.listVal c = .ok v) (hvt : st.ty v = .ok (.sl e' b)) (hy : st.val y = .ok (.c (.v i))) (hyt : st.ty i = .ok (.int .i64)) (he : elemOf X.P t = some e) (hn : b.n = szOf X.P e) (hpos : 0 < b.n) :
    QStep X D Γ st ⟨some d, .indexAddr t x y, ty, ps, af, gd⟩ ⟨[(.get v i, b)], (st.bind b).put d (.ra (regOf c) (cellsOf (regOf c) st.nx [] b))⟩ :=
  q_bind rfl hN fun ρ a w g v' hi hv' => by
    have hp := val_rep hi hx
    have hro := list_ro hi hp hl hvt hne
    have hvg := V.list_of (ty_get hi hvt)
    generalize (v.get ρ).as (.sl e' b) = xs at hro hvg
    simp only [Ex.den1, Ex.den, hvg, Option.bind_eq_some_iff, Option.some.injEq] at hv'
    obtain ⟨z, hz, rfl⟩ := hv'
    obtain ⟨h0, h1, h2⟩ := gget_ok hz
    have hye := val_int hi hy hyt
    generalize hxe : a.eval x = u at hro
    generalize hels : List.map (enc (regOf c) b) xs = els at hro
    cases hro with
    | ro0 =>
      have : xs = [] := List.map_eq_nil_iff.1 hels
      subst this
      simp at h2
    | ro _ _ bb off n cap s f hn' hc hm hS hs hsz hcell hrep =>
      have hg : els[(i.get ρ).int.toNat]? = some (enc (regOf c) b z) := by rw [← hels, List.getElem?_map, h2]; rfl
      have hse : s = szOf X.P e := by rw [← hn, ← hsz _ _ hg, enc_length]
      subst hse
      rw [← hels, List.length_map] at hn'
      refine ⟨rfl, .pointer (some ⟨bb, off + (i.get ρ).int.toNat * szOf X.P e, none⟩), fun w' _ => ?_, fun hi' hr' => ?_⟩
      · simp only [execOp, hxe, hye, Sem.run_bind, run_indexAt he hs ⟨bb, off, none⟩ n cap _ h0 (by omega), addr_add, Sem.run_pure, Result.andThen_ok]
      · have hcells : encL (ρ ++ [⟨b, z⟩]) (cellsOf (regOf c) st.nx [] b) = enc (regOf c) b z := cellsOf_enc _ _ _ b [] z (by
          have : (st.ref).get (ρ ++ [⟨b, z⟩]) = ⟨b, z⟩ := ref_get hi.len
          exact this)
        refine ⟨bb, off + (i.get ρ).int.toNat * szOf X.P e, f (i.get ρ).int.toNat, hS, rfl, fun k q hq => ?_⟩
        rw [hcells] at hq
        rw [Nat.add_assoc]
        exact ⟨hcell _ _ k q hg hq, hrep _ _ k q hg hq⟩
theorem indexAddr_ok (hN : d < X.N) (h : stepIndexAddr X.P st d t x y = .ok s) : QStep X D Γ st ⟨some d, .indexAddr t x y, ty, ps, af, gd⟩ s := by
  unfold stepIndexAddr at h
  obtain ⟨⟨k, i⟩, hy, h⟩ := ok_bind h
  obtain ⟨hy1, hy2⟩ := intOf_ok hy
  simp only at h
  split at h
  · cases h
  · rename_i hk
    have hk : k = .i64 := Decidable.of_not_not hk
    subst hk
    obtain ⟨vx, hx, h⟩ := ok_bind h
    split at h
    · rename_i r
      split at h
      · rename_i e b v nl inner hr
        split at h
        · rename_i hc
          simp only [Except.ok.injEq] at h
          subst h
          exact idx_own (k0 := .i64) hN hx hy1 hy2 hc.1 hc.2.1 hc.2.2.1 hc.2.2.2 fun ρ a w g hi => ⟨nl, _, row_of hi hr, by simp⟩
        · cases h
      · rename_i e b v nl i' k' hr
        split at h
        · rename_i hc
          simp only [Except.ok.injEq] at h
          subst h
          refine idx_own (k0 := .i64) hN hx hy1 hy2 hc.1 hc.2.1 hc.2.2.1 hc.2.2.2 fun ρ a w g hi => ⟨nl, _, hi.inv.row (r, []) (.row false nl e (((v.get ρ).as (.sl e b)).mapIdx fun i y => encE r i 0 b y)) (by simp only [hr, RK.rows]), by simp⟩
        · cases h
      · cases h
    · rename_i c hne
      obtain ⟨v, hl, h⟩ := ok_bind h
      obtain ⟨tv, hvt, h⟩ := ok_bind h
      split at h
      · rename_i e' b
        split at h
        · rename_i e he
          split at h
          · cases h
          · rename_i hc
            have hc := Decidable.of_not_not hc
            simp only [Except.ok.injEq] at h
            subst h
            exact idx_ro hN hx (fun r hr => hne r hr) hl hvt hy1 hy2 he hc.1 hc.2
        · cases h
      · cases h
    · cases h
end
end Go.Pu
