/-
  Own work. Struct values; slice literals.
-/
import Derived.Test.YtamaghlnjchhbaaPuL
import Derived.Laws.Tables
namespace Go.Pu
open Go Go.RowKit
set_option linter.unusedVariables false

theorem fill_one (cs : Array Value) (off : Nat) : ∀ (vs : List Value) (j : Nat) (m : Nat), off + j + vs.length ≤ cs.size →
    ((vs.zipIdx j).foldl (fun cs (c, j) => cs.setIfInBounds (off + j) c) cs).size = cs.size ∧
    ((vs.zipIdx j).foldl (fun cs (c, j) => cs.setIfInBounds (off + j) c) cs)[m]? = if off + j ≤ m ∧ m < off + j + vs.length then vs[m - (off + j)]? else cs[m]? := by
  intro vs
  induction vs generalizing cs with
  | nil => intro j m _; simp; intro h1 h2; omega
  | cons v vs ih =>
    intro j m h
    simp only [List.zipIdx_cons, List.foldl_cons, List.length_cons] at h ⊢
    obtain ⟨h1, h2⟩ := ih (cs.setIfInBounds (off + j) v) (j + 1) m (by simp; omega)
    refine ⟨by rw [h1]; simp, ?_⟩
    rw [h2]
    by_cases hm : m = off + j
    · subst hm
      rw [if_neg (by omega), if_pos (by omega)]
      simp only [Nat.sub_self, List.getElem?_cons_zero]
      rw [Array.getElem?_setIfInBounds_self_of_lt (by omega)]
    · rw [Array.getElem?_setIfInBounds_ne (by omega)]
      by_cases hin : off + (j + 1) ≤ m ∧ m < off + (j + 1) + vs.length
      · rw [if_pos hin, if_pos (by omega)]
        have : m - (off + j) = (m - (off + (j + 1))) + 1 := by omega
        rw [this, List.getElem?_cons_succ]
      · rw [if_neg hin, if_neg (by omega)]
theorem splice_get {α : Type} (c : List α) (k : Nat) (xs : List α) (hk : k + xs.length ≤ c.length) (j : Nat) : (splice c k xs)[j]? = if k ≤ j ∧ j < k + xs.length then xs[j - k]? else c[j]? := by
  unfold splice
  rw [List.append_assoc, List.getElem?_append, List.length_take, Nat.min_eq_left (by omega)]
  split
  · rename_i h; rw [if_neg (by omega), List.getElem?_take, if_pos h]
  · rename_i h
    rw [List.getElem?_append]
    split
    · rename_i h2; rw [if_pos (by omega)]
    · rename_i h2; rw [if_neg (by omega), List.getElem?_drop]; congr 1; omega
theorem splice_length {α : Type} (c : List α) (k : Nat) (xs : List α) (hk : k + xs.length ≤ c.length) : (splice c k xs).length = c.length := by
  unfold splice; simp; omega
theorem splice_map {α β : Type} (f : α → β) (c : List α) (k : Nat) (xs : List α) : (splice c k xs).map f = splice (c.map f) k (xs.map f) := by
  unfold splice; simp
section
variable {X : Ctx} {D : Nat → Prop} {Γ : List FE} {st : St} {ρ : Env} {a : Act} {w : World} {g : G}
/-- Cells on the machine against closed cells. -/
def CellsRep (w : World) (g : G) (ρ : Env) (cs : List SC) (vs : Array Value) : Prop := vs.size = cs.length ∧ ∀ (k : Nat) (q : C), (encL ρ cs)[k]? = some q → ∃ u, vs[k]? = some u ∧ CRep w g q u
theorem cellsRep_splice {cs xs : List SC} {vs us : Array Value} (h : CellsRep w g ρ cs vs) (hx : CellsRep w g ρ xs us) {off : Nat} (ho : off + xs.length ≤ cs.length) :
    CellsRep w g ρ (splice cs off xs) (us.zipIdx.foldl (fun cs (c, j) => cs.setIfInBounds (off + j) c) vs) := by
  have e : us.zipIdx.foldl (fun cs (c, j) => cs.setIfInBounds (off + j) c) vs = (us.toList.zipIdx 0).foldl (fun cs (c, j) => cs.setIfInBounds (off + j) c) vs := by
    rw [← Array.foldl_toList, Array.toList_zipIdx]
  have hf := fun m => fill_one vs off us.toList 0 m (by simp; have := h.1; have := hx.1; omega)
  rw [← e] at hf
  refine ⟨by rw [(hf 0).1, splice_length _ _ _ ho]; exact h.1, fun k q hq => ?_⟩
  rw [encL_map, splice_map, splice_get _ _ _ (by simpa using ho), List.length_map] at hq
  rw [(hf k).2]
  have hl : us.toList.length = xs.length := by simpa using hx.1
  rw [hl]
  simp only [Nat.add_zero]
  split at hq
  · rename_i hin
    rw [if_pos hin]
    obtain ⟨u, hu, hr⟩ := hx.2 (k - off) q (by rw [encL_map]; exact hq)
    exact ⟨u, by simpa using hu, hr⟩
  · rename_i hin
    rw [if_neg hin]
    exact h.2 k q (by rw [encL_map]; exact hq)
theorem buildParts_ok (hi : TInv X D st ρ a w g) (places : List (Nat × Nat)) : ∀ (ps : List (Nat × Operand)) (cs cs' : List SC) (vs : Array Value), buildParts st places ps cs = .ok cs' → CellsRep w g ρ cs vs →
    ∃ vs', Instr.fill (places.toArray[·]?) vs (ps.map fun p => (p.1, a.eval p.2)) = some vs' ∧ CellsRep w g ρ cs' vs'
  | [], cs, cs', vs, h, hr => by
    simp only [buildParts, Except.ok.injEq] at h
    subst h
    exact ⟨vs, rfl, hr⟩
  | (i, o) :: ps, cs, cs', vs, h, hr => by
    simp only [buildParts] at h
    obtain ⟨v, hv, h⟩ := ok_bind h
    obtain ⟨xs, hxs, h⟩ := ok_bind h
    split at h
    · rename_i off sz hp
      split at h
      · rename_i hc
        obtain ⟨h1, h2⟩ := cells_rep hi hv hxs
        have hx : CellsRep w g ρ xs (a.eval o).cells := ⟨h1, fun k q hq => by obtain ⟨u, q1, q2, _⟩ := h2 k q hq; exact ⟨u, q1, q2⟩⟩
        obtain ⟨vs', q1, q2⟩ := buildParts_ok hi places ps _ cs' _ h (cellsRep_splice hr hx (off := off) (by omega))
        refine ⟨vs', ?_, q2⟩
        have hpl : places.toArray[i]? = some (off, sz) := by simpa using hp
        simp only [List.map_cons, Instr.fill, hpl]
        rw [if_neg (by simp [h1, hc.1]; have := hr.1; omega)]
        exact q1
      · cases h
    · cases h
variable {d : Nat} {x y : Operand} {t t' ty : TypeId} {ps : String} {af : Array Edge} {gd : Option (Nat × Bool)} {s : Step} {nr : Bool}
theorem build_ok {parts : Array (Nat × Operand)} (hN : d < X.N) (h : stepBuild X.P st d t parts.toList = .ok s) : WStep X D Γ nr st ⟨some d, .build t parts, ty, ps, af, gd⟩ s := by
  unfold stepBuild at h
  split at h
  · rename_i zs places hz hp
    obtain ⟨cs, hcs, h⟩ := ok_bind h
    simp only [Except.ok.injEq] at h
    subst h
    intro ρ ρ' a w g hi hw hk he
    have := evalB_nil he
    subst this
    obtain ⟨i, z, hinfo, hzero, rfl⟩ := zeroSC_spec hz
    have hr0 : CellsRep w g ρ' (z.cells.toList.map zeroC) z.cells := ⟨by simp, fun k q hq => by
      rw [encL_map, List.map_map, List.getElem?_map, Option.map_eq_some_iff] at hq
      obtain ⟨u, hu, rfl⟩ := hq
      exact ⟨u, by simpa using hu, zeroC_rep _ u⟩⟩
    obtain ⟨vs, h1, h2⟩ := buildParts_ok hi places _ _ _ _ hcs hr0
    unfold placesOf at hp
    split at hp
    · rename_i fields hu
      have hb : X.P.built t (parts.map fun (i, x) => (i, a.eval x)).toList = some vs := by
        have e : (parts.map fun (i, x) => (i, a.eval x)).toList = parts.toList.map fun p => (p.1, a.eval p.2) := by simp
        unfold Program.built
        simp only [hinfo, hu, hzero, hp, e]
        exact h1
      refine wp_build t parts rfl (by rw [hb]; rfl) ?_
      rw [hb]
      exact ⟨fun _ => .refl _ _, g, hi.put hN ⟨vs, rfl, by rw [h2.1, encL_map, List.length_map], h2.2⟩⟩
    · cases hp
  · cases h

/-! ### Values put together -/
theorem leaves_length : ∀ (t : Ty), t.leaves.length = t.n
  | .int _ => rfl
  | .bool => rfl
  | .unit => rfl
  | .pr a b => by simp only [Ty.leaves, List.length_append, leaves_length a, leaves_length b, Ty.n]
  | .sl _ _ => rfl
  | .mp => rfl
theorem mkv_app : ∀ (t : Ty) (vs rest : List V), vs.length = t.n → mkv t (vs ++ rest) = ((mkv t vs).1, rest)
  | .int _, [v], rest, _ => by simp [mkv]
  | .bool, [v], rest, _ => by simp [mkv]
  | .unit, [], rest, _ => by simp [mkv]
  | .sl _ _, [v], rest, _ => by simp [mkv]
  | .mp, [v], rest, _ => by simp [mkv]
  | .pr a b, vs, rest, h => by
    simp only [Ty.n] at h
    have e : vs = vs.take a.n ++ vs.drop a.n := (List.take_append_drop a.n vs).symm
    have l1 : (vs.take a.n).length = a.n := by simp; omega
    have l2 : (vs.drop a.n).length = b.n := by simp; omega
    have q1 := mkv_app a (vs.take a.n) (vs.drop a.n ++ rest) l1
    have q2 := mkv_app b (vs.drop a.n) rest l2
    have q3 := mkv_app a (vs.take a.n) (vs.drop a.n) l1
    rw [← List.append_assoc, ← e] at q1
    rw [← e] at q3
    simp only [mkv, q1, q2, q3]
  | .int _, [], _, h => by simp [Ty.n] at h
  | .int _, _ :: _ :: _, _, h => by simp [Ty.n] at h
  | .bool, [], _, h => by simp [Ty.n] at h
  | .bool, _ :: _ :: _, _, h => by simp [Ty.n] at h
  | .unit, _ :: _, _, h => by simp [Ty.n] at h
  | .sl _ _, [], _, h => by simp [Ty.n] at h
  | .sl _ _, _ :: _ :: _, _, h => by simp [Ty.n] at h
  | .mp, [], _, h => by simp [Ty.n] at h
  | .mp, _ :: _ :: _, _, h => by simp [Ty.n] at h
theorem mkv_pr (a b : Ty) (vs : List V) (h : vs.length = (Ty.pr a b).n) : (mkv (.pr a b) vs).1 = ((mkv a (vs.take a.n)).1, (mkv b (vs.drop a.n)).1) := by
  simp only [Ty.n] at h
  have l1 : (vs.take a.n).length = a.n := by simp; omega
  have q3 := mkv_app a (vs.take a.n) (vs.drop a.n) l1
  rw [List.take_append_drop] at q3
  simp only [mkv, q3]
/-- A value put together from its cells is represented as its cells are. -/
theorem mk_enc (rg : Rg) : ∀ (t : Ty) (vs : List V) (qs : List C), vs.length = t.n → qs.length = t.n →
    (∀ (k : Nat) (u : Ty) (v : V) (q : C), t.leaves[k]? = some u → vs[k]? = some v → qs[k]? = some q → enc rg u (mkv u [v]).1 = [q]) → enc rg t (mkv t vs).1 = qs
  | .int kd, [v], [q], _, _, h => h 0 (.int kd) v q rfl rfl rfl
  | .bool, [v], [q], _, _, h => h 0 .bool v q rfl rfl rfl
  | .unit, [], [], _, _, h => rfl
  | .sl e a, [v], [q], _, _, h => h 0 (.sl e a) v q rfl rfl rfl
  | .mp, [v], [q], _, _, h => h 0 .mp v q rfl rfl rfl
  | .pr a b, vs, qs, hv, hq, h => by
    rw [mkv_pr a b vs hv]
    simp only [Ty.n] at hv hq
    have la := leaves_length a
    simp only [enc]
    rw [mk_enc rg a (vs.take a.n) (qs.take a.n) (by simp; omega) (by simp; omega) (fun k u v q q1 q2 q3 => by
        have hk : k < a.n := by rw [← la]; exact (List.getElem?_eq_some_iff.1 q1).1
        rw [List.getElem?_take, if_pos hk] at q2 q3
        exact h k u v q (by simp only [Ty.leaves]; rw [List.getElem?_append_left (by omega)]; exact q1) q2 q3),
      mk_enc rg b (vs.drop a.n) (qs.drop a.n) (by simp; omega) (by simp; omega) (fun k u v q q1 q2 q3 => by
        rw [List.getElem?_drop] at q2 q3
        exact h (a.n + k) u v q (by simp only [Ty.leaves]; rw [List.getElem?_append_right (by omega), la]; simpa using q1) q2 q3)]
    exact List.take_append_drop a.n qs
  | .int _, [], _, h, _, _ => by simp [Ty.n] at h
  | .int _, _ :: _ :: _, _, h, _, _ => by simp [Ty.n] at h
  | .int _, [_], [], _, h, _ => by simp [Ty.n] at h
  | .int _, [_], _ :: _ :: _, _, h, _ => by simp [Ty.n] at h
  | .bool, [], _, h, _, _ => by simp [Ty.n] at h
  | .bool, _ :: _ :: _, _, h, _, _ => by simp [Ty.n] at h
  | .bool, [_], [], _, h, _ => by simp [Ty.n] at h
  | .bool, [_], _ :: _ :: _, _, h, _ => by simp [Ty.n] at h
  | .unit, _ :: _, _, h, _, _ => by simp [Ty.n] at h
  | .unit, [], _ :: _, _, h, _ => by simp [Ty.n] at h
  | .sl _ _, [], _, h, _, _ => by simp [Ty.n] at h
  | .sl _ _, _ :: _ :: _, _, h, _, _ => by simp [Ty.n] at h
  | .sl _ _, [_], [], _, h, _ => by simp [Ty.n] at h
  | .sl _ _, [_], _ :: _ :: _, _, h, _ => by simp [Ty.n] at h
  | .mp, [], _, h, _, _ => by simp [Ty.n] at h
  | .mp, _ :: _ :: _, _, h, _, _ => by simp [Ty.n] at h
  | .mp, [_], [], _, h, _ => by simp [Ty.n] at h
  | .mp, [_], _ :: _ :: _, _, h, _ => by simp [Ty.n] at h
theorem takeCells_cons {inner : Option Rg} {t : Ty} {ts : List Ty} {c : SC} {cs : List SC} {xs : List At} {rs : List Nat} (h : st.takeCells inner (t :: ts) (c :: cs) = .ok (xs, rs)) :
    ∃ x xs' rs', xs = x :: xs' ∧ st.takeCells inner ts cs = .ok (xs', rs') ∧
      ((t.isSl = false ∧ c = .v x ∧ x.ty st.ts = some t ∧ rs = rs') ∨
       (∃ e a, t = .sl e a ∧ inner = none ∧ c = .nil ∧ x = .nil (.sl e a) ∧ rs = rs') ∨
       (∃ e a r nl, t = .sl e a ∧ inner = none ∧ c = .h r ∧ st.rk r = .list e a x nl none ∧ a.flat = true ∧ rs'.contains r = false ∧ st.fix.contains r = false ∧ rs = r :: rs') ∨
       (∃ e a rg, t = .sl e a ∧ inner = some rg ∧ c = .s rg x ∧ x.ty st.ts = some t ∧ rs = rs')) := by
  cases t with
  | sl e a =>
    simp only [St.takeCells] at h
    have hb := ok_bind h
    clear h
    obtain ⟨⟨xs', rs'⟩, h1, h⟩ := hb
    simp only at h
    split at h
    · simp only [Except.ok.injEq, Prod.mk.injEq] at h
      exact ⟨_, xs', rs', h.1.symm, h1, .inr (.inl ⟨e, a, rfl, rfl, rfl, rfl, h.2.symm⟩)⟩
    · rename_i r
      split at h
      · rename_i e' a' val nl hr
        split at h
        · rename_i hc
          simp only [Except.ok.injEq, Prod.mk.injEq] at h
          obtain ⟨rfl, rfl, hf, hn, hx⟩ := hc
          exact ⟨val, xs', rs', h.1.symm, h1, .inr (.inr (.inl ⟨_, _, r, nl, rfl, rfl, rfl, hr, hf, by simpa using hn, by simpa using hx, h.2.symm⟩))⟩
        · cases h
      · cases h
    · rename_i rg rg' x
      split at h
      · rename_i hc
        simp only [Except.ok.injEq, Prod.mk.injEq] at h
        obtain ⟨rfl, hx⟩ := hc
        exact ⟨x, xs', rs', h.1.symm, h1, .inr (.inr (.inr ⟨e, a, _, rfl, rfl, rfl, hx, h.2.symm⟩))⟩
      · cases h
    · cases h
  | _ =>
    simp only [St.takeCells] at h
    have hb := ok_bind h
    clear h
    obtain ⟨⟨xs', rs'⟩, h1, h⟩ := hb
    simp only at h
    split at h
    · rename_i x
      split at h
      · rename_i hx
        simp only [Except.ok.injEq, Prod.mk.injEq] at h
        exact ⟨x, xs', rs', h.1.symm, h1, .inl ⟨rfl, rfl, hx, h.2.symm⟩⟩
      · cases h
    · cases h
theorem isSl_flat : ∀ (t : Ty), t.flat = true → ∀ (k : Nat) (u : Ty), t.leaves[k]? = some u → (∃ kd, u = .int kd) ∨ u = .bool
  | .int kd, _, k, u, h => by
    have hk : k = 0 := by have := (List.getElem?_eq_some_iff.1 h).1; simp [Ty.leaves] at this; exact this
    subst hk; simp only [Ty.leaves, List.getElem?_cons_zero, Option.some.injEq] at h; exact .inl ⟨kd, h.symm⟩
  | .bool, _, k, u, h => by
    have hk : k = 0 := by have := (List.getElem?_eq_some_iff.1 h).1; simp [Ty.leaves] at this; exact this
    subst hk; simp only [Ty.leaves, List.getElem?_cons_zero, Option.some.injEq] at h; exact .inr h.symm
  | .unit, _, k, u, h => by simp [Ty.leaves] at h
  | .pr a b, hf, k, u, h => by
    simp only [Ty.flat, Bool.and_eq_true] at hf
    simp only [Ty.leaves, List.getElem?_append] at h
    split at h
    · exact isSl_flat a hf.1 k u h
    · exact isSl_flat b hf.2 _ u h
  | .sl _ _, hf, _, _, _ => by simp [Ty.flat] at hf
  | .mp, hf, _, _, _ => by simp [Ty.flat] at hf
/-- Cells without slices: their atoms. -/
theorem take_flat (hi : TInv X D st ρ a w g) (inner : Option Rg) : ∀ (ts : List Ty) (cs : List SC) (xs : List At) (rs : List Nat), (∀ (k : Nat) (u : Ty), ts[k]? = some u → (∃ kd, u = .int kd) ∨ u = .bool) → st.takeCells inner ts cs = .ok (xs, rs) →
    rs = [] ∧ cs.length = ts.length ∧ xs.length = ts.length ∧ (∀ x ∈ xs, x.lt st.ts.length = true) ∧ ∀ (k : Nat) (u : Ty) (x : At) (q : C), ts[k]? = some u → xs[k]? = some x → (encL ρ cs)[k]? = some q → ∀ rg, enc rg u (mkv u [x.get ρ]).1 = [q]
  | [], [], xs, rs, _, h => by
    simp only [St.takeCells, Except.ok.injEq, Prod.mk.injEq] at h
    obtain ⟨rfl, rfl⟩ := h
    exact ⟨rfl, rfl, rfl, fun x hx => by simp at hx, fun k u x q h1 => by simp at h1⟩
  | t :: ts, c :: cs, xs, rs, hf, h => by
    obtain ⟨x, xs', rs', rfl, h1, h2⟩ := takeCells_cons h
    obtain ⟨e1, e2, e3, e4, e5⟩ := take_flat hi inner ts cs xs' rs' (fun k u hu => hf (k + 1) u (by simpa using hu)) h1
    have ht := hf 0 t rfl
    rcases h2 with ⟨hs, rfl, hx, rfl⟩ | ⟨e, a, rfl, _⟩ | ⟨e, a, r, nl, rfl, _⟩ | ⟨e, a, rg, rfl, _⟩
    · refine ⟨e1, by simp [e2], by simp [e3], fun y hy => ?_, fun k u y q q1 q2 q3 rg => ?_⟩
      · rcases List.mem_cons.1 hy with rfl | hy
        · exact At.ty_lt hx
        · exact e4 y hy
      · cases k with
        | zero =>
          simp only [List.getElem?_cons_zero, Option.some.injEq, encL] at q1 q2 q3
          subst q1 q2 q3
          have hg := At.ty_get hi.typ hx
          rcases ht with ⟨kd, rfl⟩ | rfl
          · rw [V.int_of hg]; simp only [SC.enc, mkv, enc, V.int]; rw [V.int_of hg]; rfl
          · rw [V.bool_of hg]; simp only [SC.enc, mkv, enc, V.bool]; rw [V.bool_of hg]; rfl
        | succ k => exact e5 k u y q (by simpa using q1) (by simpa using q2) (by simpa [encL] using q3) rg
    · rcases ht with ⟨_, ht⟩ | ht <;> cases ht
    · rcases ht with ⟨_, ht⟩ | ht <;> cases ht
    · rcases ht with ⟨_, ht⟩ | ht <;> cases ht
  | [], _ :: _, _, _, _, h => by simp [St.takeCells] at h
  | t :: _, [], _, _, _, h => by cases t <;> simp [St.takeCells] at h
theorem take_enc (hi : TInv X D st ρ a w g) {inner : Option Rg} {t : Ty} {cs : List SC} {xs : List At} {rs : List Nat} (hf : t.flat = true) (h : st.takeCells inner t.leaves cs = .ok (xs, rs)) (rg : Rg) :
    rs = [] ∧ cs.length = t.n ∧ (∀ x ∈ xs, x.lt st.ts.length = true) ∧ enc rg t (mkv t (xs.map (At.get ρ))).1 = encL ρ cs := by
  obtain ⟨h1, h2, h3, h4, h5⟩ := take_flat hi inner t.leaves cs xs rs (isSl_flat t hf) h
  have hl := leaves_length t
  refine ⟨h1, by omega, h4, mk_enc rg t _ _ (by rw [List.length_map]; omega) (by rw [encL_map, List.length_map]; omega) fun k u v q q1 q2 q3 => ?_⟩
  rw [List.getElem?_map, Option.map_eq_some_iff] at q2
  obtain ⟨x, hx, rfl⟩ := q2
  exact h5 k u x q q1 hx q3 rg
end
end Go.Pu
