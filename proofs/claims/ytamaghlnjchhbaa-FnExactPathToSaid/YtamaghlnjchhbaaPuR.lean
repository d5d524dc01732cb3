/-
  Own work. Relabelling: cells that speak of other places and regions, and stand for the same value.
-/
import Derived.Test.YtamaghlnjchhbaaPuQ
namespace Go.Pu
open Go Go.RowKit
set_option linter.unusedVariables false

inductive C.Rel (ml : Loc → Loc → Prop) (mr : Rg → Rg → Prop) : C → C → Prop
  | int (k : IntKind) (z : Int) : C.Rel ml mr (.int k z) (.int k z)
  | bool (b : Bool) : C.Rel ml mr (.bool b) (.bool b)
  | nil : C.Rel ml mr .nil .nil
  | gone (x : C) : C.Rel ml mr x .gone
  | ro (rg rg' : Rg) (els els' : List (List C)) (hl : els'.length = els.length) (hr : els ≠ [] → mr rg rg')
      (h0 : ∀ (i : Nat) (cs cs' : List C), els[i]? = some cs → els'[i]? = some cs' → cs'.length = cs.length)
      (h : ∀ (i : Nat) (cs cs' : List C) (k : Nat) (x x' : C), els[i]? = some cs → els'[i]? = some cs' → cs[k]? = some x → cs'[k]? = some x' → C.Rel ml mr x x') : C.Rel ml mr (.ro rg els) (.ro rg' els')
  | rp (rg rg' : Rg) (cells cells' : List C) (hr : mr rg rg') (hl : cells'.length ≤ cells.length)
      (h : ∀ (k : Nat) (x x' : C), cells[k]? = some x → cells'[k]? = some x' → C.Rel ml mr x x') : C.Rel ml mr (.rp rg cells) (.rp rg' cells')
  | hd (l l' : Loc) (h : ml l l') : C.Rel ml mr (.hd l) (.hd l')
  | fn (f : FuncId) (caps caps' : List C) (hl : caps'.length = caps.length) (h : ∀ (k : Nat) (x x' : C), caps[k]? = some x → caps'[k]? = some x' → C.Rel ml mr x x') : C.Rel ml mr (.fn f caps) (.fn f caps')
  | sub (l l' : Loc) (s lo n : Nat) (h : ml l l') : C.Rel ml mr (.sub l s lo n) (.sub l' s lo n)
  | both (x y x' y' : C) (hx : C.Rel ml mr x x') (hy : C.Rel ml mr y y') : C.Rel ml mr (.both x y) (.both x' y')
theorem get_other {α : Type} {l l' : List α} {i : Nat} {y : α} (hl : l'.length ≤ l.length) (h : l'[i]? = some y) : ∃ x, l[i]? = some x := by
  have := (List.getElem?_eq_some_iff.1 h).1
  exact ⟨_, List.getElem?_eq_getElem (by omega)⟩
theorem CRep.rel {w w' : World} {g g' : G} {ml : Loc → Loc → Prop} {mr : Rg → Rg → Prop} {x : C} {v : Value} (h : CRep w g x v) (hl : ∀ l l', ml l l' → g'.hdr l' = g.hdr l)
    (hr : ∀ rg rg', mr rg rg' → ∀ b, g.reg rg b → g'.reg rg' b ∧ w'.heap[b]? = w.heap[b]?) : ∀ {x'}, C.Rel ml mr x x' → CRep w' g' x' v := by
  induction h with
  | int k z => intro x' h; cases h <;> first | exact .int k z | exact .gone _
  | bool b => intro x' h; cases h <;> first | exact .bool b | exact .gone _
  | nil => intro x' h; cases h <;> first | exact .nil | exact .gone _
  | gone v => intro x' h; cases h; exact .gone v
  | ro0 rg a cap =>
    intro x' h
    cases h with
    | gone => exact .gone _
    | ro _ rg' _ els' hl2 _ _ _ =>
      have : els' = [] := List.eq_nil_of_length_eq_zero hl2
      subst this; exact .ro0 _ _ _
  | ro rg els b off n cap s f hn hc hm hS hs hsz hcell hrep ih =>
    intro x' h
    cases h with
    | gone => exact .gone _
    | ro _ rg' _ els' hl2 h1 h0 h2 =>
      by_cases he : els = []
      · subst he; subst hn
        have : els' = [] := List.eq_nil_of_length_eq_zero hl2
        subst this; exact .ro0 _ _ _
      · have hb := hr rg rg' (h1 he) b hS
        refine .ro rg' els' b off n cap s f (by omega) hc hm hb.1 hs (fun i cs' q1 => ?_) (fun i cs' k x' q1 q2 => ?_) (fun i cs' k x' q1 q2 => ?_)
        · obtain ⟨cs, hcs⟩ := get_other (l := els) (by omega) q1
          rw [h0 i cs cs' hcs q1]; exact hsz i cs hcs
        · obtain ⟨cs, hcs⟩ := get_other (l := els) (by omega) q1
          obtain ⟨x, hx⟩ := get_other (l := cs) (by rw [h0 i cs cs' hcs q1]; exact Nat.le_refl _) q2
          rw [World.cell?_of_block (w := w) hb.2]; exact hcell i cs k x hcs hx
        · obtain ⟨cs, hcs⟩ := get_other (l := els) (by omega) q1
          obtain ⟨x, hx⟩ := get_other (l := cs) (by rw [h0 i cs cs' hcs q1]; exact Nat.le_refl _) q2
          exact ih i cs k x hcs hx (h2 i cs cs' k x x' hcs q1 hx q2)
  | rp rg cells b off f hS hcell hrep ih =>
    intro x' h
    cases h with
    | gone => exact .gone _
    | rp _ rg' _ cells' h1 hl2 h2 =>
      have hb := hr rg rg' h1 b hS
      refine .rp rg' cells' b off f hb.1 (fun k x' q => ?_) (fun k x' q => ?_)
      · obtain ⟨x, hx⟩ := get_other (l := cells) hl2 q
        rw [World.cell?_of_block (w := w) hb.2]; exact hcell k x hx
      · obtain ⟨x, hx⟩ := get_other (l := cells) hl2 q
        exact ih k x hx (h2 k x x' hx q)
  | hd l v hv =>
    intro x' h
    cases h with
    | gone => exact .gone _
    | hd _ l' h1 => exact .hd l' v (hv.trans (hl l l' h1).symm)
  | fn f caps vs hs hrep ih =>
    intro x' h
    cases h with
    | gone => exact .gone _
    | fn _ _ caps' hl2 h1 =>
      refine .fn f caps' vs (by omega) (fun k x' q => ?_)
      obtain ⟨x, hx⟩ := get_other (l := caps) (by omega) q
      exact ih k x hx (h1 k x x' hx q)
  | sub l s lo n v hv =>
    intro x' h
    cases h with
    | gone => exact .gone _
    | sub _ l' _ _ _ h1 => exact .sub l' s lo n v (by rw [hl l l' h1]; exact hv)
  | both x y v _ _ ih1 ih2 =>
    intro x' h
    cases h with
    | gone => exact .gone _
    | both _ _ _ _ h1 h2 => exact .both _ _ v (ih1 h1) (ih2 h2)
inductive Row.Rel (ml : Loc → Loc → Prop) (mr : Rg → Rg → Prop) : Row → Row → Prop
  | row (bx nl nl' : Bool) (e : TypeId) (els els' : List (List C)) (hn : nl' = true → nl = true) (hl : els'.length = els.length)
      (h0 : ∀ (i : Nat) (cs cs' : List C), els[i]? = some cs → els'[i]? = some cs' → cs'.length = cs.length)
      (h : ∀ (i : Nat) (cs cs' : List C) (k : Nat) (x x' : C), els[i]? = some cs → els'[i]? = some cs' → cs[k]? = some x → cs'[k]? = some x' → C.Rel ml mr x x') : Row.Rel ml mr (.row bx nl e els) (.row bx nl' e els')
  | mp (kvs : List (Int × Bool)) : Row.Rel ml mr (.mp kvs) (.mp kvs)
theorem RowRep.rel {P : Program} {w w' : World} {g g' : G} {ml : Loc → Loc → Prop} {mr : Rg → Rg → Prop} {l l' : Loc} {row row' : Row} (h : RowRep P w g l row) (hl : ∀ l l', ml l l' → g'.hdr l' = g.hdr l)
    (hr : ∀ rg rg', mr rg rg' → ∀ b, g.reg rg b → g'.reg rg' b ∧ w'.heap[b]? = w.heap[b]?) (h0 : g'.hdr l' = g.hdr l) (hb : ∀ b, g.own b = some l → g'.own b = some l' ∧ w'.heap[b]? = w.heap[b]?)
    (hx : Row.Rel ml mr row row') : RowRep P w' g' l' row' := by
  cases hx with
  | mp kvs =>
    cases h with
    | mp _ b clk es hd own heap hes => exact .mp kvs b clk es (h0.trans hd) (hb b own).1 ((hb b own).2.trans heap) hes
  | row bx nl nl' e els els' hn hl2 hz hx =>
    cases h with
    | nil _ _ hd =>
      have : els' = [] := List.eq_nil_of_length_eq_zero hl2
      subst this; exact .nil _ _ (h0.trans hd)
    | zero _ a hd =>
      have : els' = [] := List.eq_nil_of_length_eq_zero hl2
      subst this
      cases nl' with
      | false => exact .zero _ a (h0.trans hd)
      | true => cases hn rfl
    | full _ _ _ _ b base n cap cs f h =>
      have get : ∀ (i : Nat) (c' : List C), els'[i]? = some c' → ∃ c, els[i]? = some c := fun i c' q => get_other (by omega) q
      have cell : ∀ (i : Nat) (c' : List C) (k : Nat) (x' : C), els'[i]? = some c' → c'[k]? = some x' → ∃ c x, els[i]? = some c ∧ c[k]? = some x ∧ C.Rel ml mr x x' := fun i c' k x' q1 q2 => by
        obtain ⟨c, hc⟩ := get i c' q1
        obtain ⟨x, hx'⟩ := get_other (l := c) (by rw [hz i c c' hc q1]; exact Nat.le_refl _) q2
        exact ⟨c, x, hc, hx', hx i c c' k x x' hc q1 hx' q2⟩
      refine .full _ _ _ _ b base n cap cs f ⟨h0.trans h.hd, (hb b h.own).1, (hb b h.own).2.trans h.heap, by rw [hl2]; exact h.len, h.hcap, h.hmax, h.fit, h.pos, fun i c' q => ?_, fun i c' k x' q1 q2 => ?_, fun i c' k x' q1 q2 => ?_, fun e0 => ?_⟩
      · obtain ⟨c, hc⟩ := get i c' q
        rw [hz i c c' hc q]; exact h.size i c hc
      · obtain ⟨c, x, q3, q4, _⟩ := cell i c' k x' q1 q2
        exact h.cell i c k x q3 q4
      · obtain ⟨c, x, q3, q4, q5⟩ := cell i c' k x' q1 q2
        exact (h.rep i c k x q3 q4).rel hl hr q5
      · intro e1
        subst e1
        exact h.nonil (hn e0) (List.eq_nil_of_length_eq_zero hl2.symm)

/-! ### Encodings of one value, for other regions and roots -/
theorem enc_rel {ml : Loc → Loc → Prop} {mr : Rg → Rg → Prop} {rg rg' : Rg} : ∀ (t : Ty) (hr : t.flat = true ∨ mr rg rg') (x : t.den) (k : Nat) (q q' : C), (enc rg t x)[k]? = some q → (enc rg' t x)[k]? = some q' → C.Rel ml mr q q' := by
  intro t
  induction t with
  | int kd => intro hr x k q q' h h'; simp only [enc] at h h'; rw [h] at h'; cases h'; cases k with
    | zero => cases h; exact .int _ _
    | succ k => simp at h
  | bool => intro hr x k q q' h h'; simp only [enc] at h h'; rw [h] at h'; cases h'; cases k with
    | zero => cases h; exact .bool _
    | succ k => simp at h
  | unit => intro hr x k q q' h; simp [enc] at h
  | mp => intro hr x k q q' h h'; simp only [enc] at h'; cases k with
    | zero => cases h'; exact .gone _
    | succ k => simp at h'
  | pr a b iha ihb =>
    intro hr x k q q' h h'
    simp only [enc, List.getElem?_append, enc_length] at h h'
    have ha : a.flat = true ∨ mr rg rg' := hr.imp (fun h => by simp only [Ty.flat, Bool.and_eq_true] at h; exact h.1) id
    have hb : b.flat = true ∨ mr rg rg' := hr.imp (fun h => by simp only [Ty.flat, Bool.and_eq_true] at h; exact h.2) id
    split at h
    · rename_i hk; rw [if_pos hk] at h'; exact iha ha _ _ _ _ h h'
    · rename_i hk; rw [if_neg hk] at h'; exact ihb hb _ _ _ _ h h'
  | sl e a iha =>
    intro hr x k q q' h h'
    simp only [enc] at h h'
    have hr : mr rg rg' := hr.resolve_left (by simp [Ty.flat])
    cases k with
    | succ k => simp at h
    | zero =>
      cases h; cases h'
      refine .ro _ _ _ _ (by simp) (fun _ => hr) (fun i cs cs' q1 q2 => ?_) (fun i cs cs' k y y' q1 q2 q3 q4 => ?_)
      · rw [List.getElem?_map, Option.map_eq_some_iff] at q1 q2
        obtain ⟨z, hz, rfl⟩ := q1
        obtain ⟨z', hz', rfl⟩ := q2
        rw [enc_length, enc_length]
      · rw [List.getElem?_map, Option.map_eq_some_iff] at q1 q2
        obtain ⟨z, hz, rfl⟩ := q1
        obtain ⟨z', hz', rfl⟩ := q2
        rw [hz] at hz'; cases hz'
        exact iha (.inr hr) _ _ _ _ q3 q4
theorem encE_rel {ml : Loc → Loc → Prop} {mr : Rg → Rg → Prop} {r r' i : Nat} (hl : ∀ k, ml (r, [(i, k)]) (r', [(i, k)])) : ∀ (t : Ty) (k0 : Nat) (x : t.den) (k : Nat) (q q' : C), (encE r i k0 t x)[k]? = some q → (encE r' i k0 t x)[k]? = some q' → C.Rel ml mr q q' := by
  intro t
  induction t with
  | int kd => intro k0 x k q q' h h'; simp only [encE] at h h'; rw [h] at h'; cases h'; cases k with
    | zero => cases h; exact .int _ _
    | succ k => simp at h
  | bool => intro k0 x k q q' h h'; simp only [encE] at h h'; rw [h] at h'; cases h'; cases k with
    | zero => cases h; exact .bool _
    | succ k => simp at h
  | unit => intro k0 x k q q' h; simp [encE] at h
  | mp => intro k0 x k q q' h h'; simp only [encE] at h'; cases k with
    | zero => cases h'; exact .gone _
    | succ k => simp at h'
  | pr a b iha ihb =>
    intro k0 x k q q' h h'
    simp only [encE, List.getElem?_append, encE_length] at h h'
    split at h
    · rename_i hk; rw [if_pos hk] at h'; exact iha _ _ _ _ _ h h'
    · rename_i hk; rw [if_neg hk] at h'; exact ihb _ _ _ _ _ h h'
  | sl e a iha =>
    intro k0 x k q q' h h'
    simp only [encE] at h h'
    cases k with
    | succ k => simp at h
    | zero => cases h; cases h'; exact .hd _ _ (hl k0)
theorem subRow_rel {ml : Loc → Loc → Prop} {mr : Rg → Rg → Prop} : ∀ (t : Ty) (hn : t.flat1 = true ∨ mr none none) (k0 : Nat) (x : t.den) (j : Nat) (row : Row), subRow k0 t x j = some row → Row.Rel ml mr row row := by
  intro t
  induction t with
  | pr a b iha ihb =>
    intro hn k0 x j row h
    simp only [subRow] at h
    cases hb : Nat.blt j (k0 + a.n) with
    | true => rw [hb] at h; exact iha (hn.imp (fun h => by simp only [Ty.flat1, Bool.and_eq_true] at h; exact h.1) id) _ _ _ _ h
    | false => rw [hb] at h; exact ihb (hn.imp (fun h => by simp only [Ty.flat1, Bool.and_eq_true] at h; exact h.2) id) _ _ _ _ h
  | sl e a iha =>
    intro hn k0 x j row h
    simp only [subRow] at h
    cases hb : Nat.beq j k0 with
    | false => rw [hb] at h; cases h
    | true =>
      rw [hb] at h
      cases h
      refine .row _ _ _ _ _ _ (fun h => h) rfl (fun i cs cs' q1 q2 => (by rw [q1] at q2; cases q2; rfl)) (fun i cs cs' k y y' q1 q2 q3 q4 => ?_)
      rw [q1] at q2; cases q2
      rw [List.getElem?_map, Option.map_eq_some_iff] at q1
      obtain ⟨z, hz, rfl⟩ := q1
      exact enc_rel a (hn.imp (fun h => by simpa only [Ty.flat1] using h) id) z k y y' q3 q4
  | _ => intro hn k0 x j row h; simp [subRow] at h
/-- A list's rows, under another root. -/
theorem list_rel {ml : Loc → Loc → Prop} {mr : Rg → Rg → Prop} {r r' : Nat} {e : TypeId} {a : Ty} {x x' : At} {ρ ρ' : Env} {nl nl' : Bool} (hv : (x'.get ρ').as (.sl e a) = (x.get ρ).as (.sl e a)) (hnl : nl' = true → nl = true) (hl : ∀ p, p ≠ [] → ml (r, p) (r', p)) (hn : a.flat1 = true ∨ mr none none) {p : List (Nat × Nat)} {row' : Row}
    (h : (RK.list e a x' nl' none).rows ρ' r' p = some row') : ∃ row, (RK.list e a x nl none).rows ρ r p = some row ∧ Row.Rel ml mr row row' := by
  cases p with
  | nil =>
    rw [rows_nil_list, hv] at h
    cases h
    refine ⟨_, rows_nil_list .., .row _ _ _ _ _ _ hnl (by simp) (fun i cs cs' q1 q2 => ?_) (fun i cs cs' k y y' q1 q2 q3 q4 => ?_)⟩
    · rw [List.getElem?_mapIdx, Option.map_eq_some_iff] at q1 q2
      obtain ⟨z, hz, rfl⟩ := q1
      obtain ⟨z', hz', rfl⟩ := q2
      simp only [encIn, encE_length]
    · rw [List.getElem?_mapIdx, Option.map_eq_some_iff] at q1 q2
      obtain ⟨z, hz, rfl⟩ := q1
      obtain ⟨z', hz', rfl⟩ := q2
      rw [hz] at hz'; cases hz'
      exact encE_rel (fun k => hl _ (by simp)) a 0 z k y y' q3 q4
  | cons q p =>
    obtain ⟨_, rfl, y, hy, hs⟩ := rows_cons_list h
    rw [hv] at hy
    refine ⟨row', ?_, subRow_rel _ hn _ _ _ _ hs⟩
    have hy' : ((x.get ρ).as (.sl e a) : List a.den)[q.1]? = some y := hy
    simp only [RK.rows]
    rw [hy']; exact hs
end Go.Pu
