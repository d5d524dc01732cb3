/-
  Own work. New blocks: variables, boxes, made slices; which roots a state speaks of.
-/
import Derived.Test.YtamaghlnjchhbaaPuJ
namespace Go.Pu
open Go Go.RowKit
set_option linter.unusedVariables false

/-! ### Which roots are spoken of: headers (ph), regions (pr) -/
def plOf (ph : Nat → Bool) (l : Loc) : Prop := ph l.1 = true
def prOf (pr : Nat → Bool) (rg : Rg) : Prop := ∀ r, rg = some r → pr r = true
section
variable {ph pr : Nat → Bool} {pl : Loc → Prop} {prr : Rg → Prop}
theorem enc_ok {rg : Rg} (hr : prr rg) : ∀ (t : Ty) (x : t.den) (k : Nat) (q : C), (enc rg t x)[k]? = some q → C.Ok pl prr q
  | .int kd, x, k, q, h => by
    have hk : k = 0 := by have := (List.getElem?_eq_some_iff.1 h).1; simp [enc] at this; exact this
    subst hk; simp only [enc, List.getElem?_cons_zero, Option.some.injEq] at h; subst h; exact .int _ _
  | .bool, x, k, q, h => by
    have hk : k = 0 := by have := (List.getElem?_eq_some_iff.1 h).1; simp [enc] at this; exact this
    subst hk; simp only [enc, List.getElem?_cons_zero, Option.some.injEq] at h; subst h; exact .bool _
  | .unit, x, k, q, h => by simp [enc] at h
  | .pr a b, x, k, q, h => by
    simp only [enc, List.getElem?_append] at h
    split at h
    · exact enc_ok hr a x.1 k q h
    · exact enc_ok hr b x.2 _ q h
  | .sl e a, xs, k, q, h => by
    have hk : k = 0 := by have := (List.getElem?_eq_some_iff.1 h).1; simp [enc] at this; exact this
    subst hk; simp only [enc, List.getElem?_cons_zero, Option.some.injEq] at h; subst h
    refine .ro rg _ (fun _ => hr) fun i cs k q h1 h2 => ?_
    rw [List.getElem?_map, Option.map_eq_some_iff] at h1
    obtain ⟨y, _, rfl⟩ := h1
    exact enc_ok hr a y k q h2
  | .mp, x, k, q, h => by
    have hk : k = 0 := by have := (List.getElem?_eq_some_iff.1 h).1; simp [enc] at this; exact this
    subst hk; simp only [enc, List.getElem?_cons_zero, Option.some.injEq] at h; subst h; exact .gone
theorem encE_ok {r i : Nat} (hl : ∀ k, pl (r, [(i, k)])) : ∀ (t : Ty) (k0 : Nat) (x : t.den) (k : Nat) (q : C), (encE r i k0 t x)[k]? = some q → C.Ok pl prr q
  | .int kd, k0, x, k, q, h => by
    have hk : k = 0 := by have := (List.getElem?_eq_some_iff.1 h).1; simp [encE] at this; exact this
    subst hk; simp only [encE, List.getElem?_cons_zero, Option.some.injEq] at h; subst h; exact .int _ _
  | .bool, k0, x, k, q, h => by
    have hk : k = 0 := by have := (List.getElem?_eq_some_iff.1 h).1; simp [encE] at this; exact this
    subst hk; simp only [encE, List.getElem?_cons_zero, Option.some.injEq] at h; subst h; exact .bool _
  | .unit, k0, x, k, q, h => by simp [encE] at h
  | .pr a b, k0, x, k, q, h => by
    simp only [encE, List.getElem?_append] at h
    split at h
    · exact encE_ok hl a k0 x.1 k q h
    · exact encE_ok hl b _ x.2 _ q h
  | .sl e a, k0, xs, k, q, h => by
    have hk : k = 0 := by have := (List.getElem?_eq_some_iff.1 h).1; simp [encE] at this; exact this
    subst hk; simp only [encE, List.getElem?_cons_zero, Option.some.injEq] at h; subst h
    exact .hd _ (hl k0)
  | .mp, k0, x, k, q, h => by
    have hk : k = 0 := by have := (List.getElem?_eq_some_iff.1 h).1; simp [encE] at this; exact this
    subst hk; simp only [encE, List.getElem?_cons_zero, Option.some.injEq] at h; subst h; exact .gone
theorem vc_ok (v : V) : C.Ok pl prr v.c := by
  unfold V.c
  split
  · exact .int _ _
  · exact .bool _
  · exact .gone
theorem els_ok {rg : Rg} (hr : prr rg) (v : V) : C.Ok pl prr (.ro rg (v.els rg)) := by
  refine .ro rg _ (fun _ => hr) fun i cs k q h1 h2 => ?_
  unfold V.els at h1
  split at h1
  · rw [List.getElem?_map, Option.map_eq_some_iff] at h1
    obtain ⟨y, _, rfl⟩ := h1
    exact enc_ok hr _ y k q h2
  · simp at h1
mutual
theorem SC.okR_ok {ρ : Env} : ∀ (c : SC), c.okR ph pr = true → C.Ok (plOf ph) (prOf pr) (c.enc ρ)
  | .v x, _ => by simp only [SC.enc]; exact vc_ok _
  | .s none x, _ => by simp only [SC.enc]; exact els_ok (fun r h => by cases h) _
  | .s (some r) x, h => by simp only [SC.okR] at h; simp only [SC.enc]; exact els_ok (fun r' h' => by cases h'; exact h) _
  | .nil, _ => by simp only [SC.enc]; exact .nil
  | .h r, h => by simp only [SC.okR] at h; simp only [SC.enc]; exact .hd _ h
  | .hn r i k x, h => by
    simp only [SC.okR, Bool.and_eq_true] at h; simp only [SC.enc]
    exact .both _ _ (.hd _ h.1) (els_ok (fun r' h' => by cases h'; exact h.2) _)
  | .hs r lo hi x, h => by
    simp only [SC.okR, Bool.and_eq_true] at h; simp only [SC.enc]
    exact .both _ _ (.sub _ _ _ _ h.1) (els_ok (fun r' h' => by cases h'; exact h.2) _)
  | .rp rg cells, h => by
    simp only [SC.okR, Bool.and_eq_true] at h; simp only [SC.enc]
    exact .rp _ _ (fun r h' => by subst h'; exact h.1) (okL_ok cells h.2)
  | .fn f caps, h => by simp only [SC.okR] at h; simp only [SC.enc]; exact .fn _ _ (okL_ok caps h)
  | .gone, _ => by simp only [SC.enc]; exact .gone
theorem okL_ok {ρ : Env} : ∀ (cs : List SC), okL ph pr cs = true → ∀ (k : Nat) (q : C), (encL ρ cs)[k]? = some q → C.Ok (plOf ph) (prOf pr) q
  | [], _, k, q, hq => by simp [encL] at hq
  | c :: cs, h, 0, q, hq => by
    simp only [okL, Bool.and_eq_true] at h
    simp only [encL, List.getElem?_cons_zero, Option.some.injEq] at hq
    subst hq; exact SC.okR_ok c h.1
  | c :: cs, h, k + 1, q, hq => by
    simp only [okL, Bool.and_eq_true] at h
    simp only [encL, List.getElem?_cons_succ] at hq
    exact okL_ok cs h.2 k q hq
end
theorem SV.okR_ok {ρ : Env} (v : SV) (h : v.okR ph pr = true) : PV.Ok (plOf ph) (prOf pr) (v.enc ρ) := by
  cases v with
  | c x => exact SC.okR_ok x h
  | agg xs => exact okL_ok xs h
  | ad r e i k => exact h
  | ra rg cells =>
    simp only [SV.okR, Bool.and_eq_true] at h
    exact ⟨fun r h' => by subst h'; exact h.1, okL_ok cells h.2⟩
  | tup rs =>
    simp only [SV.okR, List.all_eq_true] at h
    intro k r hr
    rw [List.getElem?_map, Option.map_eq_some_iff] at hr
    obtain ⟨y, hy, rfl⟩ := hr
    have h1 := okL_ok (ρ := ρ) y.2 (h y (List.mem_of_getElem? hy))
    unfold encR
    split
    · exact h1
    · split
      · rename_i c cs hc; exact h1 0 c (by rw [hc]; rfl)
      · exact .gone
  | und => trivial
  | junk => trivial
theorem subRow_ok : ∀ (t : Ty) (k0 j : Nat) (x : t.den) (row : Row), subRow k0 t x j = some row → Row.Ok pl (prOf pr) row := by
  intro t
  induction t with
  | pr a b iha ihb =>
    intro k0 j x row h
    simp only [subRow] at h
    cases hb : Nat.blt j (k0 + a.n) <;> rw [hb] at h
    · exact ihb _ _ _ _ h
    · exact iha _ _ _ _ h
  | sl e a =>
    intro k0 j x row h
    simp only [subRow] at h
    cases hb : Nat.beq j k0 <;> rw [hb] at h
    · cases h
    · cases h
      intro i cs k q h1 h2
      rw [List.getElem?_map, Option.map_eq_some_iff] at h1
      obtain ⟨y, _, rfl⟩ := h1
      exact enc_ok (fun r h' => by cases h') a y k q h2
  | _ => intro k0 j x row h; simp [subRow] at h
theorem rows_nil_list (ρ : Env) (r : Nat) (e : TypeId) (a : Ty) (v : At) (nl : Bool) (inner : Option Rg) : RK.rows ρ r (.list e a v nl inner) [] = some (.row false nl e (((v.get ρ).as (.sl e a)).mapIdx fun i y => encIn inner r i a y)) := by
  cases inner <;> rfl
theorem rows_cons_list {ρ : Env} {r : Nat} {e : TypeId} {a : Ty} {v : At} {nl : Bool} {inner : Option Rg} {q : Nat × Nat} {p : List (Nat × Nat)} {row : Row} (h : RK.rows ρ r (.list e a v nl inner) (q :: p) = some row) :
    inner = none ∧ p = [] ∧ ∃ y, ((v.get ρ).as (.sl e a) : List a.den)[q.1]? = some y ∧ subRow 0 a y q.2 = some row := by
  obtain ⟨i, k⟩ := q
  cases p with
  | cons _ _ => cases inner <;> simp [RK.rows] at h
  | nil =>
    cases inner with
    | some rg => simp [RK.rows] at h
    | none =>
      have h : (((v.get ρ).as (.sl e a) : List a.den)[i]?).bind (fun y => subRow 0 a y k) = some row := h
      rw [Option.bind_eq_some_iff] at h
      obtain ⟨y, h1, h2⟩ := h
      exact ⟨rfl, rfl, y, h1, h2⟩
theorem rows_cons_listH {ρ : Env} {r : Nat} {e : TypeId} {a : Ty} {v : At} {nl : Bool} {i' : At} {k' : Nat} {q : Nat × Nat} {p : List (Nat × Nat)} {row : Row} (h : RK.rows ρ r (.listH e a v nl i' k') (q :: p) = some row) :
    p = [] ∧ q ≠ (i'.nat ρ, k') ∧ ∃ y, ((v.get ρ).as (.sl e a) : List a.den)[q.1]? = some y ∧ subRow 0 a y q.2 = some row := by
  obtain ⟨i, k⟩ := q
  cases p with
  | cons _ _ => simp [RK.rows] at h
  | nil =>
    have h : (bif Nat.beq i (i'.nat ρ) && Nat.beq k k' then none else (((v.get ρ).as (.sl e a) : List a.den)[i]?).bind (fun y => subRow 0 a y k)) = some row := h
    cases hb : (Nat.beq i (i'.nat ρ) && Nat.beq k k') with
    | true => rw [hb] at h; cases h
    | false =>
      rw [hb] at h
      simp only [cond_false, Option.bind_eq_some_iff] at h
      obtain ⟨y, h1, h2⟩ := h
      refine ⟨rfl, ?_, y, h1, h2⟩
      intro e0
      cases e0
      simp at hb
theorem RK.okR_ok {ρ : Env} {r : Nat} (k : RK) (h : k.okR ph pr = true) (hl : ∀ p, p ≠ [] → pl (r, p)) (hp : ∀ l, plOf ph l → pl l) (p : List (Nat × Nat)) (row : Row) (hr : k.rows ρ r p = some row) : Row.Ok pl (prOf pr) row := by
  cases k with
  | box e cells =>
    cases p with
    | cons q p => simp [RK.rows] at hr
    | nil =>
      simp only [RK.rows, Option.some.injEq] at hr
      subst hr
      intro i cs k q h1 h2
      cases i with
      | zero => cases h1; exact (okL_ok cells h k q h2).mono hp (fun _ h => h)
      | succ i => cases h1
  | list e a v nl inner =>
    cases p with
    | nil =>
      rw [rows_nil_list] at hr
      simp only [Option.some.injEq] at hr
      subst hr
      intro i cs k q h1 h2
      rw [List.getElem?_mapIdx, Option.map_eq_some_iff] at h1
      obtain ⟨y, _, rfl⟩ := h1
      cases inner with
      | none => exact encE_ok (fun k => hl _ (by simp)) a 0 y k q h2
      | some rg => exact enc_ok (fun r h' => by subst h'; exact h) a y k q h2
    | cons q p =>
      obtain ⟨_, _, y, _, hs⟩ := rows_cons_list hr
      exact subRow_ok _ _ _ _ _ hs
  | listH e a v nl i k =>
    cases p with
    | nil =>
      simp only [RK.rows, Option.some.injEq] at hr
      subst hr
      intro i cs k q h1 h2
      rw [List.getElem?_mapIdx, Option.map_eq_some_iff] at h1
      obtain ⟨y, _, rfl⟩ := h1
      exact encE_ok (fun k => hl _ (by simp)) a 0 y k q h2
    | cons q p =>
      obtain ⟨_, _, y, _, hs⟩ := rows_cons_listH hr
      exact subRow_ok _ _ _ _ _ hs
  | mp v =>
    cases p with
    | cons q p => simp [RK.rows] at hr
    | nil =>
      simp only [RK.rows, Option.some.injEq] at hr
      subst hr; trivial
  | dead => cases p <;> simp [RK.rows] at hr
end
theorem all_slot {st : St} {p : SV → Bool} (h : st.slots.all p = true) (hj : p .junk = true) (s : Nat) : p (st.slot s) = true := by
  unfold St.slot
  rw [List.getD]
  cases hs : st.slots[s]? with
  | none => exact hj
  | some v => exact List.all_eq_true.1 h v (List.mem_of_getElem? hs)
theorem all_rk {st : St} {p : RK → Bool} (h : st.roots.all p = true) (hj : p .dead = true) (s : Nat) : p (st.rk s) = true := by
  unfold St.rk
  rw [List.getD]
  cases hs : st.roots[s]? with
  | none => exact hj
  | some v => exact List.all_eq_true.1 h v (List.mem_of_getElem? hs)
theorem rk_lt {st : St} {r : Nat} (h : st.rk r ≠ .dead) : r < st.nr := by
  unfold St.rk St.nr at *
  rcases Nat.lt_or_ge r st.roots.length with h' | h'
  · exact h'
  · rw [List.getD, List.getElem?_eq_none h'] at h; exact absurd rfl h
theorem rows_dead (ρ : Env) (r : Nat) (p : List (Nat × Nat)) : RK.rows ρ r .dead p = none := by cases p <;> rfl

section
variable {X : Ctx} {D : Nat → Prop} {Γ : List FE} {st : St} {ρ : Env} {a : Act} {w : World} {g : G}
/-- A new block, a new root, its handle in slot d. -/
theorem TInv.newRoot (h : TInv X D st ρ a w g) (hw : st.rok = true) {d : Nat} (hd : d < X.N) (k : RK) (o : Obj) (v : Value)
    (hrow : ∀ (g' : G), (∀ b, g.S b → g'.S b) → g'.hdr (st.nr, []) = v → (∀ p, p ≠ [] → g'.hdr (st.nr, p) = .slice none 0 0) → g'.own w.heap.size = some (st.nr, []) → (∀ l, l.1 < st.nr → g'.hdr l = g.hdr l) → (∀ rg, prOf (fun r => Nat.blt r st.nr) rg → ∀ b, g.reg rg b → g'.reg rg b ∧ (w.alloc o).heap[b]? = w.heap[b]?) →
      ∀ p row, k.rows ρ st.nr p = some row → RowRep X.P (w.alloc o) g' (st.nr, p) row)
    :
    ∃ g', TInv X D ((st.push k).put d (.c (.h st.nr))) ρ (a.put (some d) v) (w.alloc o) g' := by
  unfold St.rok at hw
  simp only [Bool.and_eq_true, List.all_eq_true, Nat.blt_eq] at hw
  obtain ⟨hw, hfix⟩ := hw
  let g' : G := { S := g.S, own := fun b => if b = w.heap.size then some (st.nr, []) else g.own b, hdr := fun l => if l.1 = st.nr then (if l.2 = [] then v else .slice none 0 0) else g.hdr l }
  have hL : Lat w (w.alloc o) := (Below.refl _ _).alloc (Nat.le_refl _) o
  have hok := h.inv.ok
  have hh : ∀ l, plOf (fun r => Nat.blt r st.nr) l → g'.hdr l = g.hdr l := fun l hl => by
    simp only [plOf, Nat.blt_eq] at hl
    simp only [g']
    rw [if_neg (by omega)]
  have hr : ∀ rg, prOf (fun r => Nat.blt r st.nr) rg → ∀ b, g.reg rg b → g'.reg rg b ∧ (w.alloc o).heap[b]? = w.heap[b]? := fun rg _ b hb => by
    have hlt : b < w.heap.size := by
      cases rg with
      | none => exact (hok.S b hb).1
      | some r =>
        rcases hb with hb | ⟨p, hb⟩
        · exact (hok.S b hb).1
        · exact (hok.own b _ hb).2.1
    refine ⟨?_, hL.block b hlt⟩
    cases rg with
    | none => exact hb
    | some r =>
      rcases hb with hb | ⟨p, hb⟩
      · exact .inl hb
      · exact .inr ⟨p, by simp only [g']; rw [if_neg (by omega)]; exact hb⟩
  have hlt : d < a.tmps.size := by rw [h.inv.size]; exact hd
  refine ⟨g', h.typ, h.inv.next (plOf fun r => Nat.blt r st.nr) (prOf fun r => Nat.blt r st.nr) hh hr ⟨hok.chg.trans (Chg.of_lat hL hok.base), Nat.le_trans hok.base hL.size, fun b hb => ⟨Nat.lt_of_lt_of_le (hok.S b hb).1 hL.size, (hok.S b hb).2⟩, fun b l hl => ?_⟩ (by simp [Act.put]) rfl (fun s => ?_) (fun l row hl => ?_), fun r hr0 => ?_, fun b hb => ?_⟩
  · simp only [g'] at hl
    split at hl
    · rename_i hb; subst hb
      exact ⟨.inr hok.base, by simp, fun hS => by have := (hok.S _ hS).1; omega⟩
    · obtain ⟨h1, h2, h3⟩ := hok.own b l hl
      exact ⟨h1, Nat.lt_of_lt_of_le h2 hL.size, h3⟩
  · rcases St.slot_put (st.push k) d s (.c (.h st.nr)) with ⟨e, rfl⟩ | ⟨e, hs⟩ | e
    · right; right
      rw [e]
      simp only [Act.put]
      rw [getD_set_eq _ _ _ hlt]
      exact .hd _ _ (by simp [g'])
    · right; left
      refine ⟨by rw [e]; rfl, ?_, ?_⟩
      · simp only [Act.put]
        rw [getD_set_ne' _ _ _ _ (Ne.symm hs)]
      · unfold St.okR at hw
        simp only [Bool.and_eq_true] at hw
        exact SV.okR_ok _ (all_slot hw.1 rfl s)
    · left; rw [e]; rfl
  · have hrk : ((st.push k).put d (.c (.h st.nr))).rk l.1 = if l.1 = st.nr then k else st.rk l.1 := by
      unfold St.put St.push St.rk St.nr
      simp only [List.getD]
      split
      · rename_i e; rw [e]; simp
      · rename_i e
        rcases Nat.lt_or_ge l.1 st.roots.length with h' | h'
        · rw [List.getElem?_append_left h']
        · rw [List.getElem?_append_right h', List.getElem?_eq_none (by simp; omega), List.getElem?_eq_none h']
    have hl : RK.rows ρ l.1 (((st.push k).put d (.c (.h st.nr))).rk l.1) l.2 = some row := hl
    rw [hrk] at hl
    split at hl
    · rename_i e
      right
      obtain ⟨l1, l2⟩ := l
      simp only at e
      subst e
      exact hrow g' (fun _ h => h) (by simp [g']) (fun p hp => by simp [g', hp]) (by simp [g']) (fun l hl => hh l (by simp [plOf]; exact hl)) hr l2 row hl
    · rename_i e
      left
      have hlt : l.1 < st.nr := rk_lt (fun e0 => by rw [e0, rows_dead] at hl; cases hl)
      unfold St.okR at hw
      simp only [Bool.and_eq_true] at hw
      refine ⟨hl, by simp [plOf]; exact hlt, RK.okR_ok (st.rk l.1) (all_rk hw.2 rfl l.1) (fun p _ => by simp [plOf]; exact hlt) (fun _ h => h) l.2 row hl, fun b hb => ⟨?_, hL.block b (hok.own b _ hb).2.1⟩⟩
      have := (hok.own b _ hb).2.1
      simp only [g']
      rw [if_neg (by omega)]; exact hb
  · rw [hh (r, []) (by simp [plOf]; exact hfix r hr0)]; exact h.fixd r hr0
  · obtain ⟨p, q, h1, h2, h3⟩ := h.dirt b hb
    refine ⟨p, q, h1, ?_, h3⟩
    have := (hok.own b _ h2).2.1
    simp only [g']
    rw [if_neg (by omega)]; exact h2
end
end Go.Pu
