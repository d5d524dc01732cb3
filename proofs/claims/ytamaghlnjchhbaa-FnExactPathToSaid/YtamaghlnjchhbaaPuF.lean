/-
  Own work. What a closed state says of memory, over an environment; the typed invariant; the law of steps that only compute.
-/
import Derived.Test.YtamaghlnjchhbaaPuE
namespace Go.Pu
open Go Go.RowKit
set_option linter.unusedVariables false

/-! ### Encodings -/
def enc (rg : Rg) : (t : Ty) → t.den → List C
  | .int k, z => [.int k z]
  | .bool, b => [.bool b]
  | .unit, _ => []
  | .pr a b, x => enc rg a x.1 ++ enc rg b x.2
  | .sl _ a, xs => [.ro rg (List.map (enc rg a) xs)]
  | .mp, _ => [.gone]
/-- An element (number i) of a list that root r owns; its slices are rows of their own. -/
def encE (r i : Nat) : Nat → (t : Ty) → t.den → List C
  | _, .int k, z => [.int k z]
  | _, .bool, b => [.bool b]
  | _, .unit, _ => []
  | k, .pr a b, x => encE r i k a x.1 ++ encE r i (k + a.n) b x.2
  | k, .sl _ _, _ => [.hd (r, [(i, k)])]
  | _, .mp, _ => [.gone]
/-- The row behind cell j. -/
def subRow : Nat → (t : Ty) → t.den → Nat → Option Row
  | k, .pr a b, x, j => bif Nat.blt j (k + a.n) then subRow k a x.1 j else subRow (k + a.n) b x.2 j
  | k, .sl e a, xs, j => bif Nat.beq j k then some (.row false false e (List.map (enc none a) xs)) else none
  | _, _, _, _ => none
theorem enc_length (rg : Rg) : ∀ (t : Ty) (x : t.den), (enc rg t x).length = t.n
  | .int _, _ => rfl
  | .bool, _ => rfl
  | .unit, _ => rfl
  | .pr a b, x => by simp only [enc, List.length_append, enc_length rg a x.1, enc_length rg b x.2, Ty.n]
  | .sl _ _, _ => rfl
  | .mp, _ => rfl
theorem encE_length (r i : Nat) : ∀ (k : Nat) (t : Ty) (x : t.den), (encE r i k t x).length = t.n
  | _, .int _, _ => rfl
  | _, .bool, _ => rfl
  | _, .unit, _ => rfl
  | k, .pr a b, x => by simp only [encE, List.length_append, encE_length r i k a x.1, encE_length r i (k + a.n) b x.2, Ty.n]
  | _, .sl _ _, _ => rfl
  | _, .mp, _ => rfl
theorem encE_flat (r i : Nat) (rg : Rg) : ∀ (k : Nat) (t : Ty) (x : t.den), t.flat = true → encE r i k t x = enc rg t x
  | _, .int _, _, _ => rfl
  | _, .bool, _, _ => rfl
  | _, .unit, _, _ => rfl
  | k, .pr a b, x, h => by
    simp only [Ty.flat, Bool.and_eq_true] at h
    simp only [encE, enc, encE_flat r i rg k a x.1 h.1, encE_flat r i rg (k + a.n) b x.2 h.2]
theorem enc_flat (rg rg' : Rg) : ∀ (t : Ty) (x : t.den), t.flat = true → enc rg t x = enc rg' t x
  | .int _, _, _ => rfl
  | .bool, _, _ => rfl
  | .unit, _, _ => rfl
  | .pr a b, x, h => by
    simp only [Ty.flat, Bool.and_eq_true] at h
    simp only [enc, enc_flat rg rg' a x.1 h.1, enc_flat rg rg' b x.2 h.2]

def V.c : V → C
  | ⟨.int k, z⟩ => .int k z
  | ⟨.bool, b⟩ => .bool b
  | _ => .gone
def V.els (rg : Rg) : V → List (List C)
  | ⟨.sl _ a, xs⟩ => List.map (enc rg a) xs
  | _ => []
def V.esz : V → Nat
  | ⟨.sl _ a, _⟩ => a.n
  | _ => 0
def At.nat (ρ : Env) (x : At) : Nat := (x.get ρ).int.toNat
def loOf (ρ : Env) : Option At → Nat
  | some x => x.nat ρ
  | none => 0
mutual
def SC.enc (ρ : Env) : SC → C
  | .v x => (x.get ρ).c
  | .s rg x => .ro rg ((x.get ρ).els rg)
  | .nil => .nil
  | .h r => .hd (r, [])
  | .hn r i k x => .both (.hd (r, [(i.nat ρ, k)])) (.ro (some r) ((x.get ρ).els (some r)))
  | .hs r lo _ x => .both (.sub (r, []) (x.get ρ).esz (loOf ρ lo) (x.get ρ).len) (.ro (some r) ((x.get ρ).els (some r)))
  | .rp rg cells => .rp rg (encL ρ cells)
  | .fn f caps => .fn f (encL ρ caps)
  | .gone => .gone
def encL (ρ : Env) : List SC → List C
  | [] => []
  | c :: cs => c.enc ρ :: encL ρ cs
end
theorem encL_map (ρ : Env) : ∀ (cs : List SC), encL ρ cs = cs.map (SC.enc ρ)
  | [] => by simp [encL]
  | c :: cs => by simp [encL, encL_map ρ cs]
def encR (ρ : Env) (x : Bool × List SC) : R := if x.1 then .agg (encL ρ x.2) else match encL ρ x.2 with | c :: _ => .one c | [] => .one .gone
def SV.enc (ρ : Env) : SV → PV
  | .c x => .c (x.enc ρ)
  | .agg xs => .agg (encL ρ xs)
  | .ad r e i k => .ad (r, []) e (i.nat ρ) k
  | .ra rg cells => .ra rg (encL ρ cells)
  | .tup rs => .tup (rs.map (encR ρ))
  | .und => .und
  | .junk => .junk
def encIn (inner : Option Rg) (r i : Nat) (a : Ty) (y : a.den) : List C := match inner with
  | some rg => enc rg a y
  | none => encE r i 0 a y
def RK.rows (ρ : Env) (r : Nat) : RK → List (Nat × Nat) → Option Row
  | .box e cells, [] => some (.row true false e [encL ρ cells])
  | .list e a v nl inner, [] => some (.row false nl e (((v.get ρ).as (.sl e a)).mapIdx fun i y => encIn inner r i a y))
  | .list e a v _ none, [(i, k)] => (((v.get ρ).as (.sl e a))[i]?).bind fun y => subRow 0 a y k
  | .listH e a v nl _ _, [] => some (.row false nl e (((v.get ρ).as (.sl e a)).mapIdx fun i y => encE r i 0 a y))
  | .listH e a v _ i' k', [(i, k)] => bif Nat.beq i (i'.nat ρ) && Nat.beq k k' then none else (((v.get ρ).as (.sl e a))[i]?).bind fun y => subRow 0 a y k
  | .mp v, [] => some (.mp ((v.get ρ).as .mp))
  | _, _ => none

theorem At.get_app {ρ ρ' : Env} {x : At} (h : x.lt ρ.length = true) : x.get (ρ ++ ρ') = x.get ρ := by
  cases x with
  | r q =>
    simp only [At.lt, Nat.blt_eq] at h
    simp only [At.get, Ref.get, List.getD, List.getElem?_append_left h]
  | _ => rfl
theorem nat_app {ρ ρ' : Env} {x : At} (h : x.lt ρ.length = true) : x.nat (ρ ++ ρ') = x.nat ρ := by unfold At.nat; rw [At.get_app h]
theorem lo_app {ρ ρ' : Env} {x : Option At} (h : oLt ρ.length x = true) : loOf (ρ ++ ρ') x = loOf ρ x := by
  cases x with
  | none => rfl
  | some x => exact nat_app h
mutual
theorem SC.enc_app {ρ ρ' : Env} : ∀ (c : SC), c.wf ρ.length = true → c.enc (ρ ++ ρ') = c.enc ρ
  | .v x, h => by simp only [SC.wf] at h; simp only [SC.enc, At.get_app h]
  | .s rg x, h => by simp only [SC.wf] at h; simp only [SC.enc, At.get_app h]
  | .nil, _ => by simp only [SC.enc]
  | .h r, _ => by simp only [SC.enc]
  | .hn r i k x, h => by simp only [SC.wf, Bool.and_eq_true] at h; simp only [SC.enc, At.get_app h.2, nat_app h.1]
  | .hs r lo hi x, h => by simp only [SC.wf, Bool.and_eq_true] at h; simp only [SC.enc, At.get_app h.2, lo_app h.1]
  | .rp rg cells, h => by simp only [SC.wf] at h; simp only [SC.enc, encL_app cells h]
  | .fn f caps, h => by simp only [SC.wf] at h; simp only [SC.enc, encL_app caps h]
  | .gone, _ => by simp only [SC.enc]
theorem encL_app {ρ ρ' : Env} : ∀ (cs : List SC), wfL ρ.length cs = true → encL (ρ ++ ρ') cs = encL ρ cs
  | [], _ => by simp only [encL]
  | c :: cs, h => by simp only [wfL, Bool.and_eq_true] at h; simp only [encL, SC.enc_app c h.1, encL_app cs h.2]
end
theorem encR_app {ρ ρ' : Env} (x : Bool × List SC) (h : wfL ρ.length x.2 = true) : encR (ρ ++ ρ') x = encR ρ x := by
  unfold encR; rw [encL_app _ h]
theorem SV.enc_app {ρ ρ' : Env} (v : SV) (h : v.wf ρ.length = true) : v.enc (ρ ++ ρ') = v.enc ρ := by
  cases v with
  | c x => simp only [SV.enc, SC.enc_app x h]
  | agg xs => simp only [SV.enc, encL_app xs h]
  | ad r e i k => simp only [SV.enc, nat_app h]
  | ra rg cells => simp only [SV.enc, encL_app cells h]
  | tup rs =>
    simp only [SV.wf, List.all_eq_true] at h
    simp only [SV.enc]
    congr 1
    exact List.map_congr_left fun x hx => encR_app x (h x hx)
  | und => rfl
  | junk => rfl
theorem RK.rows_app {ρ ρ' : Env} (r : Nat) (k : RK) (h : k.wf ρ.length = true) (p : List (Nat × Nat)) : k.rows (ρ ++ ρ') r p = k.rows ρ r p := by
  cases k with
  | box e cells => unfold RK.rows; split <;> simp_all [RK.wf, encL_app]
  | list e a v nl inner => unfold RK.rows; split <;> simp_all [RK.wf, At.get_app]
  | listH e a v nl i k => simp only [RK.wf, Bool.and_eq_true] at h; unfold RK.rows; split <;> simp_all [At.get_app, nat_app]
  | mp v => unfold RK.rows; split <;> simp_all [RK.wf, At.get_app]
  | dead => rfl

/-! ### Types -/
theorem proj_ty : ∀ (p : List Bool) (v : V) (t : Ty), v.t.proj p = some t → (v.proj p).t = t
  | [], ⟨_, _⟩, t, h => by simp only [Ty.proj, Option.some.injEq] at h; simp only [V.proj]; exact h
  | false :: p, ⟨.pr a b, x⟩, t, h => by simp only [Ty.proj] at h; simp only [V.proj]; exact proj_ty p ⟨a, x.1⟩ t h
  | true :: p, ⟨.pr a b, x⟩, t, h => by simp only [Ty.proj] at h; simp only [V.proj]; exact proj_ty p ⟨b, x.2⟩ t h
  | _ :: _, ⟨.int _, _⟩, t, h => by simp [Ty.proj] at h
  | _ :: _, ⟨.bool, _⟩, t, h => by simp [Ty.proj] at h
  | _ :: _, ⟨.unit, _⟩, t, h => by simp [Ty.proj] at h
  | _ :: _, ⟨.sl _ _, _⟩, t, h => by simp [Ty.proj] at h
  | _ :: _, ⟨.mp, _⟩, t, h => by simp [Ty.proj] at h
theorem At.ty_get {ρ : Env} {ts : List Ty} (hρ : ρ.map V.t = ts) {x : At} {t : Ty} (h : x.ty ts = some t) : (x.get ρ).t = t := by
  cases x with
  | r q =>
    subst hρ
    simp only [At.ty, List.getElem?_map] at h
    simp only [At.get, Ref.get, List.getD]
    cases hq : ρ[q.n]? with
    | none => simp [hq] at h
    | some v =>
      simp only [hq, Option.map_some] at h
      simp only [Option.getD_some]
      exact proj_ty q.p v t h
  | int k z => simp only [At.ty, Option.some.injEq] at h; exact h
  | bool b => simp only [At.ty, Option.some.injEq] at h; exact h
  | nil t' => simp only [At.ty, Option.some.injEq] at h; exact h
theorem At.ty_lt {ts : List Ty} {x : At} {t : Ty} (h : x.ty ts = some t) : x.lt ts.length = true := by
  cases x with
  | r q =>
    simp only [At.ty] at h
    cases hq : ts[q.n]? with
    | none => simp [hq] at h
    | some v => simp only [At.lt, Nat.blt_eq]; exact (List.getElem?_eq_some_iff.1 hq).1
  | _ => rfl
theorem V.int_of {v : V} {k : IntKind} (h : v.t = .int k) : v = ⟨.int k, v.int⟩ := by
  obtain ⟨t, x⟩ := v
  simp only at h
  subst h; rfl
theorem V.bool_of {v : V} (h : v.t = .bool) : v = ⟨.bool, v.bool⟩ := by
  obtain ⟨t, x⟩ := v
  simp only at h
  subst h; rfl
theorem V.list_of {v : V} {e : TypeId} {a : Ty} (h : v.t = .sl e a) : v = ⟨.sl e a, v.as (.sl e a)⟩ := by
  obtain ⟨t, x⟩ := v
  simp only at h
  subst h
  simp [V.as]
theorem V.as_self (t : Ty) (x : t.den) : V.as t ⟨t, x⟩ = x := by simp [V.as]

/-! ### The typed invariant -/
structure TInv (X : Ctx) (D : Nat → Prop) (st : St) (ρ : Env) (a : Act) (w : World) (g : G) : Prop where
  typ : ρ.map V.t = st.ts
  inv : InvG X (fun s => (st.slot s).enc ρ) (fun l => (st.rk l.1).rows ρ l.1 l.2) a w g
  fixd : ∀ r, r ∈ st.fix → g.hdr (r, []) = X.h0 r
  dirt : ∀ b, D b → ∃ p q, p ∈ st.dirty ∧ g.own b = some (p.1, q) ∧ (p.2 = true ↔ q ≠ [])
theorem TInv.len {X : Ctx} {D : Nat → Prop} {st : St} {ρ : Env} {a : Act} {w : World} {g : G} (h : TInv X D st ρ a w g) : ρ.length = st.ts.length := by rw [← h.typ, List.length_map]
theorem St.wf_slot {st : St} (h : st.wf = true) (s : Nat) : (st.slot s).wf st.ts.length = true := by
  unfold St.wf at h
  simp only [Bool.and_eq_true, List.all_eq_true] at h
  unfold St.slot
  rw [List.getD]
  cases hs : st.slots[s]? with
  | none => rfl
  | some v => exact h.1 v (List.mem_of_getElem? hs)
theorem St.wf_rk {st : St} (h : st.wf = true) (r : Nat) : (st.rk r).wf st.ts.length = true := by
  unfold St.wf at h
  simp only [Bool.and_eq_true, List.all_eq_true] at h
  unfold St.rk
  rw [List.getD]
  cases hs : st.roots[r]? with
  | none => rfl
  | some v => exact h.2 v (List.mem_of_getElem? hs)

/-- The environment grows. -/
theorem TInv.grow {X : Ctx} {D : Nat → Prop} {st : St} {ρ : Env} {a : Act} {w : World} {g : G} (h : TInv X D st ρ a w g) (hw : st.wf = true) (vs : Env) :
    TInv X D { st with ts := st.ts ++ vs.map V.t } (ρ ++ vs) a w g := by
  refine ⟨by rw [List.map_append, h.typ], ?_, h.fixd, h.dirt⟩
  have e1 : (fun s => (St.slot { st with ts := st.ts ++ vs.map V.t } s).enc (ρ ++ vs)) = fun s => (st.slot s).enc ρ := by
    funext s
    exact SV.enc_app _ (by rw [h.len]; exact St.wf_slot hw s)
  have e2 : (fun l : Loc => (St.rk { st with ts := st.ts ++ vs.map V.t } l.1).rows (ρ ++ vs) l.1 l.2) = fun l => (st.rk l.1).rows ρ l.1 l.2 := by
    funext l
    exact RK.rows_app _ _ (by rw [h.len]; exact St.wf_rk hw l.1) _
  rw [e1, e2]
  exact h.inv
theorem getD_set_eq (t : Array Value) (d : Nat) (v : Value) (h : d < t.size) : (t.setIfInBounds d v).getD d undef = v := by
  rw [Array.getD_eq_getD_getElem?, Array.getElem?_setIfInBounds_self_of_lt h]; rfl
theorem getD_set_ne' (t : Array Value) (d s : Nat) (v : Value) (h : d ≠ s) : (t.setIfInBounds d v).getD s undef = t.getD s undef := by
  rw [Array.getD_eq_getD_getElem?, Array.getElem?_setIfInBounds_ne h, ← Array.getD_eq_getD_getElem?]
theorem St.slot_put_ne {st : St} {d s : Nat} {v : SV} (h : s ≠ d) : (st.put d v).slot s = st.slot s := by
  unfold St.put St.slot
  simp only [List.getD, List.getElem?_set_ne (Ne.symm h)]
theorem St.slot_put_eq {st : St} {d : Nat} {v : SV} (h : d < st.slots.length) : (st.put d v).slot d = v := by
  unfold St.put St.slot
  simp only [List.getD, List.getElem?_set_self h, Option.getD_some]
theorem St.slot_put (st : St) (d s : Nat) (v : SV) : (st.put d v).slot s = v ∧ s = d ∨ (st.put d v).slot s = st.slot s ∧ s ≠ d ∨ (st.put d v).slot s = .junk := by
  by_cases h : s = d
  · subst h
    by_cases hl : s < st.slots.length
    · exact .inl ⟨St.slot_put_eq hl, rfl⟩
    · right; right
      unfold St.put St.slot
      simp only [List.getD]
      rw [List.getElem?_eq_none (by simpa using hl)]; rfl
  · exact .inr (.inl ⟨St.slot_put_ne h, h⟩)
/-- A value put into a slot; the world stays. -/
theorem TInv.put {X : Ctx} {D : Nat → Prop} {st : St} {ρ : Env} {a : Act} {w : World} {g : G} (h : TInv X D st ρ a w g) {d : Nat} (hd : d < X.N) {sv : SV} {v : Value} (hp : PRep X.P w g (sv.enc ρ) v) :
    TInv X D (st.put d sv) ρ (a.put (some d) v) w g := by
  have hlt : d < a.tmps.size := by rw [h.inv.size]; exact hd
  refine ⟨h.typ, ⟨by simpa [Act.put] using h.inv.size, h.inv.nodef, h.inv.ok, fun s => ?_, h.inv.row⟩, h.fixd, h.dirt⟩
  show PRep X.P w g (((st.put d sv).slot s).enc ρ) ((a.put (some d) v).tmps.getD s undef)
  rcases St.slot_put st d s sv with ⟨e, rfl⟩ | ⟨e, hs⟩ | e
  · rw [e]
    simp only [Act.put]
    rw [getD_set_eq _ _ _ hlt]; exact hp
  · rw [e]
    simp only [Act.put]
    rw [getD_set_ne' _ _ _ _ (Ne.symm hs)]
    exact h.inv.slot s
  · rw [e]; trivial
end Go.Pu
