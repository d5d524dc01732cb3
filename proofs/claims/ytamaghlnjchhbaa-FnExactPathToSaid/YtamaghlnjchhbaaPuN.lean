/-
  Own work. A root's contents turn: what of a state stays.
-/
import Derived.Test.YtamaghlnjchhbaaPuM
namespace Go.Pu
open Go Go.RowKit
set_option linter.unusedVariables false

theorem killL_get {ρ : Env} {all : Bool} {r : Nat} : ∀ (cs : List SC) (k : Nat) (q : C), (encL ρ (killL all r cs))[k]? = some q → ∃ q0, (encL ρ cs)[k]? = some q0 ∧ True
  | [], k, q, hq => by simp [killL, encL] at hq
  | c :: cs, 0, q, hq => ⟨c.enc ρ, by simp [encL], trivial⟩
  | c :: cs, k + 1, q, hq => by
    simp only [killL, encL, List.getElem?_cons_succ] at hq
    simpa [encL] using killL_get cs k q hq
theorem killL_length {all : Bool} {r : Nat} : ∀ (cs : List SC), (killL all r cs).length = cs.length
  | [] => by simp [killL]
  | c :: cs => by simp [killL, killL_length cs]
/-- From (w, g) to (w', g') nothing turns but what root r holds (all: its header too). -/
structure Stab (m : Nat) (all : Bool) (r : Nat) (w : World) (g : G) (w' : World) (g' : G) : Prop where
  hd : ∀ l : Loc, (all = false ∨ l.1 ≠ r) → (l.1 ≠ r ∨ l.2 = []) → l.1 < m → g'.hdr l = g.hdr l
  reg : ∀ rg : Rg, rg ≠ some r → (∀ r', rg = some r' → r' < m) → ∀ b, g.reg rg b → g'.reg rg b ∧ w'.heap[b]? = w.heap[b]?
section
variable {m : Nat} {all : Bool} {r : Nat} {w w' : World} {g g' : G} {ρ : Env}
theorem Stab.keepOut (S : Stab m all r w g w' g') {q : C} {v : Value} (h : CRep w g q v) (ho : C.Ok (fun l => l.1 ≠ r ∧ l.1 < m) (fun rg => rg ≠ some r ∧ ∀ r', rg = some r' → r' < m) q) : CRep w' g' q v :=
  h.keep (fun l hl => S.hd l (.inr hl.1) (.inl hl.1) hl.2) (fun rg hr => S.reg rg hr.1 hr.2) ho
theorem okOut {c : SC} (h : c.okR (fun r' => Nat.blt r' m && !(Nat.beq r' r)) (fun r' => Nat.blt r' m && !(Nat.beq r' r)) = true) : C.Ok (fun l => l.1 ≠ r ∧ l.1 < m) (fun rg => rg ≠ some r ∧ ∀ r', rg = some r' → r' < m) (c.enc ρ) := by
  refine (SC.okR_ok c h).mono (fun l hl => ?_) (fun rg hr => ?_)
  · simp only [plOf, Bool.and_eq_true, Nat.blt_eq, Bool.not_eq_true'] at hl
    exact ⟨fun e => by rw [e] at hl; simp at hl, hl.1⟩
  · refine ⟨fun e => ?_, fun r' e => ?_⟩
    · have := hr r e; simp at this
    · have := hr r' e; simp at this; exact this.1
theorem beqN {a b : Nat} (h : a ≠ b) : Nat.beq a b = false := by
  cases hb : Nat.beq a b with
  | false => rfl
  | true => exact absurd (Nat.eq_of_beq_eq_true hb) h
mutual
theorem kill_rep (S : Stab m all r w g w' g') : ∀ (c : SC) (v : Value), c.okR (fun r => Nat.blt r m) (fun r => Nat.blt r m) = true → CRep w g (c.enc ρ) v → CRep w' g' ((c.kill all r).enc ρ) v
  | .v x, v, hk, h => by simp only [SC.kill]; exact S.keepOut h (okOut rfl)
  | .s none x, v, hk, h => by simp only [SC.kill]; exact S.keepOut h (okOut rfl)
  | .s (some r') x, v, hk, h => by
    simp only [SC.kill]
    by_cases e : r' = r
    · subst e; simp only [Nat.beq_refl, cond_true, SC.enc]; exact .gone v
    · rw [beqN e]
      simp only [SC.okR] at hk
      exact S.keepOut h (okOut (c := .s (some r') x) (by simp only [SC.okR, hk, beqN e]; rfl))
  | .nil, v, hk, h => by simp only [SC.kill]; exact S.keepOut h (okOut rfl)
  | .h r', v, hk, h => by
    simp only [SC.kill]
    simp only [SC.okR, Nat.blt_eq] at hk
    cases hb : (all && Nat.beq r' r) with
    | true => simp only [cond_true, SC.enc]; exact .gone v
    | false =>
      simp only [cond_false, SC.enc] at h ⊢
      have := hd_eq h
      refine .hd _ _ (this.trans (S.hd (r', []) ?_ (.inr rfl) hk).symm)
      cases all with
      | false => exact .inl rfl
      | true => right; intro e; subst e; simp at hb
  | .hn r' i k x, v, hk, h => by
    simp only [SC.kill]
    by_cases e : r' = r
    · subst e; simp only [Nat.beq_refl, cond_true, SC.enc]; exact .gone v
    · rw [beqN e]
      simp only [SC.okR, Bool.and_eq_true] at hk
      exact S.keepOut h (okOut (c := .hn r' i k x) (by simp only [SC.okR, hk.1, beqN e]; rfl))
  | .hs r' lo hi x, v, hk, h => by
    simp only [SC.kill]
    by_cases e : r' = r
    · subst e; simp only [Nat.beq_refl, cond_true, SC.enc]; exact .gone v
    · rw [beqN e]
      simp only [SC.okR, Bool.and_eq_true] at hk
      exact S.keepOut h (okOut (c := .hs r' lo hi x) (by simp only [SC.okR, hk.1, beqN e]; rfl))
  | .rp none cells, v, hk, h => by
    simp only [SC.kill, cond_false]
    simp only [SC.okR, Bool.true_and] at hk
    simp only [SC.enc] at h ⊢
    cases h with
    | rp _ _ b o f hS hcell hrep =>
      obtain ⟨q1, q2⟩ := S.reg none (fun e => by cases e) (fun r' e => by cases e) b hS
      refine .rp none _ b o f q1 (fun k q hq => ?_) (fun k q hq => ?_)
      · obtain ⟨q0, hq0, _⟩ := killL_get cells k q hq
        rw [World.cell?_of_block (w := w) q2]; exact hcell k q0 hq0
      · exact killL_rep S cells hk k q (f k) hq (fun q0 hq0 => hrep k q0 hq0)
  | .rp (some r') cells, v, hk, h => by
    simp only [SC.kill]
    by_cases e : r' = r
    · subst e; simp only [Nat.beq_refl, cond_true, SC.enc]; exact .gone v
    · rw [beqN e]
      simp only [SC.okR, Bool.and_eq_true, Nat.blt_eq] at hk
      simp only [cond_false, SC.enc] at h ⊢
      cases h with
      | rp _ _ b o f hS hcell hrep =>
        obtain ⟨q1, q2⟩ := S.reg (some r') (fun e' => by cases e'; exact e rfl) (fun r2 e' => by cases e'; exact hk.1) b hS
        refine .rp (some r') _ b o f q1 (fun k q hq => ?_) (fun k q hq => ?_)
        · obtain ⟨q0, hq0, _⟩ := killL_get cells k q hq
          rw [World.cell?_of_block (w := w) q2]; exact hcell k q0 hq0
        · exact killL_rep S cells hk.2 k q (f k) hq (fun q0 hq0 => hrep k q0 hq0)
  | .fn f caps, v, hk, h => by
    simp only [SC.kill]
    simp only [SC.okR] at hk
    simp only [SC.enc] at h ⊢
    cases h with
    | fn _ _ vs hs hrep =>
      refine .fn f _ vs (by rw [hs, encL_map, encL_map, List.length_map, List.length_map, killL_length]) fun k q hq => ?_
      exact killL_rep S caps hk k q _ hq (fun q0 hq0 => hrep k q0 hq0)
  | .gone, v, hk, h => by simp only [SC.kill, SC.enc]; exact .gone v
theorem killL_rep (S : Stab m all r w g w' g') : ∀ (cs : List SC), okL (fun r => Nat.blt r m) (fun r => Nat.blt r m) cs = true → ∀ (k : Nat) (q : C) (v : Value), (encL ρ (killL all r cs))[k]? = some q → (∀ q0, (encL ρ cs)[k]? = some q0 → CRep w g q0 v) → CRep w' g' q v
  | [], _, k, q, v, hq, _ => by simp [killL, encL] at hq
  | c :: cs, hk, 0, q, v, hq, h => by
    simp only [okL, Bool.and_eq_true] at hk
    simp only [killL, encL, List.getElem?_cons_zero, Option.some.injEq] at hq
    subst hq
    exact kill_rep S c v hk.1 (h _ (by simp [encL]))
  | c :: cs, hk, k + 1, q, v, hq, h => by
    simp only [okL, Bool.and_eq_true] at hk
    simp only [killL, encL, List.getElem?_cons_succ] at hq
    exact killL_rep S cs hk.2 k q v hq (fun q0 hq0 => h q0 (by simpa [encL] using hq0))
end
theorem aggL_rep (S : Stab m all r w g w' g') {cs : List SC} {v : Value} (hk : okL (fun r => Nat.blt r m) (fun r => Nat.blt r m) cs = true) (h : AggRep w g (encL ρ cs) v) : AggRep w' g' (encL ρ (killL all r cs)) v := by
  obtain ⟨vs, h1, h2, h3⟩ := h
  refine ⟨vs, h1, by rw [h2, encL_map, encL_map, List.length_map, List.length_map, killL_length], fun k q hq => ?_⟩
  obtain ⟨q0, hq0, _⟩ := killL_get cs k q hq
  obtain ⟨u, hu, _⟩ := h3 k q0 hq0
  refine ⟨u, hu, killL_rep S cs hk k q u hq fun q1 hq1 => ?_⟩
  obtain ⟨u', hu', hr⟩ := h3 k q1 hq1
  rw [hu] at hu'; cases hu'; exact hr
theorem SV.kill_rep {P : Program} (S : Stab m all r w g w' g') (sv : SV) (v : Value) (hk : sv.okR (fun r => Nat.blt r m) (fun r => Nat.blt r m) = true) (h : PRep P w g (sv.enc ρ) v) : PRep P w' g' ((sv.kill all r).enc ρ) v := by
  cases sv with
  | c x => exact Pu.kill_rep S x v hk h
  | agg xs => exact aggL_rep S hk h
  | ad r' e i k =>
    simp only [SV.kill]
    simp only [SV.okR, Nat.blt_eq] at hk
    cases hb : (all && Nat.beq r' r) with
    | true => trivial
    | false =>
      obtain ⟨b, base, h1, h2⟩ := h
      refine ⟨b, base, ?_, h2⟩
      rw [S.hd (r', []) ?_ (.inr rfl) hk]
      · exact h1
      · cases all with
        | false => exact .inl rfl
        | true => right; intro e; subst e; simp at hb
  | ra rg cells =>
    simp only [SV.okR, Bool.and_eq_true] at hk
    have key : rg ≠ some r → PRep P w' g' (.ra rg (encL ρ (killL all r cells))) v := fun hne => by
      obtain ⟨b, o, f, h1, h2, h3⟩ := h
      obtain ⟨q1, q2⟩ := S.reg rg hne (fun r' e => by subst e; simpa using hk.1) b h1
      refine ⟨b, o, f, q1, h2, fun k q hq => ?_⟩
      obtain ⟨q0, hq0, _⟩ := killL_get cells k q hq
      refine ⟨by rw [World.cell?_of_block (w := w) q2]; exact (h3 k q0 hq0).1, killL_rep S cells hk.2 k q (f k) hq fun q1 hq1 => (h3 k q1 hq1).2⟩
    simp only [SV.kill]
    cases rg with
    | none => exact key (fun e => by cases e)
    | some r' =>
      by_cases e : r' = r
      · subst e; simp only [Nat.beq_refl, cond_true]; trivial
      · simp only [beqN e, cond_false]; exact key (fun e' => by cases e'; exact e rfl)
  | tup rs =>
    simp only [SV.okR, List.all_eq_true] at hk
    obtain ⟨vs, h1, h2, h3⟩ := h
    refine ⟨vs, h1, by rw [h2]; simp, fun k q hq => ?_⟩
    rw [List.getElem?_map, List.getElem?_map, Option.map_map, Option.map_eq_some_iff] at hq
    obtain ⟨y, hy, rfl⟩ := hq
    obtain ⟨u, hu, hr⟩ := h3 k (encR ρ y) (by rw [List.getElem?_map, hy]; rfl)
    refine ⟨u, hu, ?_⟩
    have hky := hk y (List.mem_of_getElem? hy)
    unfold encR at hr ⊢
    simp only [Function.comp]
    split at hr
    · rename_i hb; rw [if_pos hb]; exact aggL_rep S hky hr
    · rename_i hb
      rw [if_neg hb]
      obtain ⟨y1, y2⟩ := y
      simp only at hr hky ⊢
      cases y2 with
      | nil => simp only [killL, encL] at hr ⊢; exact .gone u
      | cons c cs =>
        simp only [killL, encL] at hr ⊢
        simp only [okL, Bool.and_eq_true] at hky
        exact Pu.kill_rep S c u hky.1 hr
  | und => exact h
  | junk => trivial
end
section
variable {X : Ctx} {D : Nat → Prop} {Γ : List FE} {st : St} {ρ : Env} {a : Act} {w w' : World} {g g' : G}
theorem kill_slot (st : St) (all : Bool) (r s : Nat) : (st.kill all r).slot s = (st.slot s).kill all r := by
  unfold St.kill St.slot
  simp only [List.getD, List.getElem?_map]
  cases st.slots[s]? <;> rfl
theorem kill_rk (st : St) (all : Bool) (r s : Nat) : (st.kill all r).rk s = (st.rk s).kill all r := by
  unfold St.kill St.rk
  simp only [List.getD, List.getElem?_map]
  cases st.roots[s]? <;> rfl
theorem setR_rk_ne {st : St} {r s : Nat} {k : RK} (h : s ≠ r) : (st.setR r k).rk s = st.rk s := by
  unfold St.setR St.rk
  simp only [List.getD, List.getElem?_set_ne (Ne.symm h)]
theorem setR_rk (st : St) (r : Nat) (k : RK) : (st.setR r k).rk r = k ∨ (st.setR r k).rk r = .dead := by
  unfold St.setR St.rk
  simp only [List.getD]
  by_cases h : r < st.roots.length
  · left; rw [List.getElem?_set_self h]; rfl
  · right; rw [List.getElem?_eq_none (by simpa using h)]; rfl
/-- The rows of another root. -/
theorem other_rows {m : Nat} {all : Bool} {r r' : Nat} (S : Stab m all r w g w' g') {P : Program} {k : RK} {p : List (Nat × Nat)} {row : Row} (hne : r' ≠ r) (hlt : r' < m) (hk : k.okR (fun r => Nat.blt r m) (fun r => Nat.blt r m) = true)
    (hold : ∀ p row, k.rows ρ r' p = some row → RowRep P w g (r', p) row) (hown : ∀ b p, g.own b = some (r', p) → g'.own b = some (r', p) ∧ w'.heap[b]? = w.heap[b]?) (h : (k.kill all r).rows ρ r' p = some row) : RowRep P w' g' (r', p) row := by
  have hh : ∀ p, g'.hdr (r', p) = g.hdr (r', p) := fun p => S.hd (r', p) (.inr hne) (.inl hne) hlt
  have plain : k.kill all r = k → (∀ r2 e a v nl, k = .list e a v nl (some (some r2)) → r2 ≠ r) → (∀ e cells, k ≠ .box e cells) → RowRep P w' g' (r', p) row := fun e hin hb => by
    rw [e] at h
    refine (hold p row h).keep (pl := fun l => l.1 = r') (pr := fun rg => rg ≠ some r ∧ ∀ r', rg = some r' → r' < m) (fun l hl => by obtain ⟨l1, l2⟩ := l; simp only at hl; subst hl; exact hh l2) (fun rg hr => S.reg rg hr.1 hr.2) (hh p) (fun b hb => hown b p hb) ?_
    have := RK.okR_ok (ph := fun _ => false) (pr := fun r' => Nat.blt r' m && !(Nat.beq r' r)) (pl := fun l => l.1 = r') (ρ := ρ) (r := r') k ?_ (fun p _ => rfl) (fun l hl => by simp [plOf] at hl) p row h
    · cases row with
      | row bx nl e els => exact fun i cs k q h1 h2 => (this i cs k q h1 h2).mono (fun _ h => h) (fun rg hr => ⟨fun e => by have := hr r e; simp at this, fun r2 e => by have := hr r2 e; simp at this; exact this.1⟩)
      | mp kvs => trivial
    · cases k with
      | box e1 cells => exact absurd rfl (hb e1 cells)
      | list e1 a v nl inner =>
        cases inner with
        | none => rfl
        | some rg =>
          cases rg with
          | none => rfl
          | some r2 =>
            simp only [RK.okR] at hk ⊢
            have hb1 := beqN (hin r2 e1 a v nl rfl)
            simp [hk, hb1]
      | _ => rfl
  cases k with
  | box e cells =>
    simp only [RK.kill] at h
    cases p with
    | cons q p => simp [RK.rows] at h
    | nil =>
      simp only [RK.rows, Option.some.injEq] at h
      subst h
      have := hold [] _ rfl
      cases this with
      | full _ _ _ _ b base n cap cs f hf =>
        have ho := hown b [] hf.own
        have hget : ∀ (i : Nat) (c : List C), [encL ρ (killL all r cells)][i]? = some c → i = 0 ∧ c = encL ρ (killL all r cells) := fun i c hc => by
          cases i with
          | zero => cases hc; exact ⟨rfl, rfl⟩
          | succ i => cases hc
        refine .full _ _ _ _ b base n cap cs f ⟨(hh []).trans hf.hd, ho.1, ho.2.trans hf.heap, hf.len, hf.hcap, hf.hmax, hf.fit, hf.pos, fun i c hc => ?_, fun i c k x h1 h2 => ?_, fun i c k x h1 h2 => ?_, fun h => by cases h⟩
        · obtain ⟨rfl, rfl⟩ := hget i c hc
          have := hf.size 0 _ rfl
          rw [encL_map, List.length_map] at this ⊢
          rw [killL_length]; exact this
        · obtain ⟨rfl, rfl⟩ := hget i c h1
          obtain ⟨q0, hq0, _⟩ := killL_get cells k x h2
          exact hf.cell 0 _ k q0 rfl hq0
        · obtain ⟨rfl, rfl⟩ := hget i c h1
          exact killL_rep S cells hk k x _ h2 fun q0 hq0 => hf.rep 0 _ k q0 rfl hq0
  | list e a v nl inner =>
    cases inner with
    | none => exact plain rfl (fun _ _ _ _ _ h => by cases h) (fun _ _ h => by cases h)
    | some rg =>
      cases rg with
      | none => exact plain rfl (fun _ _ _ _ _ h => by cases h) (fun _ _ h => by cases h)
      | some r2 =>
        by_cases e2 : r2 = r
        · subst e2
          simp only [RK.kill, Nat.beq_refl, cond_true, rows_dead] at h; cases h
        · exact plain (by simp only [RK.kill, beqN e2, cond_false]) (fun r3 _ _ _ _ h => by cases h; exact e2) (fun _ _ h => by cases h)
  | listH e a v nl i k => exact plain rfl (fun _ _ _ _ _ h => by cases h) (fun _ _ h => by cases h)
  | mp v => exact plain rfl (fun _ _ _ _ _ h => by cases h) (fun _ _ h => by cases h)
  | dead => exact plain rfl (fun _ _ _ _ _ h => by cases h) (fun _ _ h => by cases h)
/-- A root's contents turn. -/
theorem TInv.mut (h : TInv X D st ρ a w g) (hk : st.rok = true) {all : Bool} {r : Nat} (S : Stab st.nr all r w g w' g') (hok : GOK X g' w') (k : RK) (hrows : ∀ p row, k.rows ρ r p = some row → RowRep X.P w' g' (r, p) row)
    (hfix : all = true → st.fix.contains r = false) (hown : ∀ b l, l.1 ≠ r → g.own b = some l → g'.own b = some l ∧ w'.heap[b]? = w.heap[b]?) (dirty' : List (Nat × Bool))
    (hdirt : ∀ b, D b → ∃ p q, p ∈ dirty' ∧ g'.own b = some (p.1, q) ∧ (p.2 = true ↔ q ≠ [])) :
    TInv X D { ((st.kill all r).setR r k) with dirty := dirty' } ρ a w' g' := by
  unfold St.rok St.okR at hk
  simp only [Bool.and_eq_true, List.all_eq_true, Nat.blt_eq] at hk
  obtain ⟨⟨hk1, hk2⟩, hk3⟩ := hk
  have hs1 : st.slots.all (SV.okR (fun r => Nat.blt r st.nr) (fun r => Nat.blt r st.nr)) = true := List.all_eq_true.2 hk1
  have hs2 : st.roots.all (RK.okR (fun r => Nat.blt r st.nr) (fun r => Nat.blt r st.nr)) = true := List.all_eq_true.2 hk2
  refine ⟨h.typ, ⟨h.inv.size, h.inv.nodef, hok, fun s => ?_, fun l row hl => ?_⟩, fun r' hr' => ?_, hdirt⟩
  · show PRep X.P w' g' (((st.kill all r).slot s).enc ρ) (a.tmps.getD s undef)
    rw [kill_slot]
    exact SV.kill_rep S _ _ (all_slot hs1 rfl s) (h.inv.slot s)
  · have hl : RK.rows ρ l.1 (((st.kill all r).setR r k).rk l.1) l.2 = some row := hl
    obtain ⟨l1, l2⟩ := l
    simp only at hl
    by_cases e : l1 = r
    · subst e
      rcases setR_rk (st.kill all l1) l1 k with e | e
      · rw [e] at hl; exact hrows l2 row hl
      · rw [e, rows_dead] at hl; cases hl
    · rw [setR_rk_ne e, kill_rk] at hl
      have hlt : l1 < st.nr := rk_lt (fun e0 => by rw [e0] at hl; simp only [RK.kill, rows_dead] at hl; cases hl)
      exact other_rows S e hlt (all_rk hs2 rfl l1) (fun p row hp => h.inv.row (l1, p) row hp) (fun b p hb => hown b _ e hb) hl
  · rw [S.hd (r', []) ?_ (.inr rfl) (hk3 r' hr')]
    · exact h.fixd r' hr'
    · cases all with
      | false => exact .inl rfl
      | true =>
        right
        intro e
        subst e
        have h1 := hfix rfl
        have hr2 : r' ∈ st.fix := hr'
        have h2 : st.fix.contains r' = true := by simpa using hr2
        rw [h1] at h2; cases h2
end
end Go.Pu
