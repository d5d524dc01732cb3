/-
  Own work. Jumps: the present state met with a head.
-/
import Derived.Test.YtamaghlnjchhbaaPuU
namespace Go.Pu
open Go Go.RowKit
set_option linter.unusedVariables false
set_option linter.unusedSectionVars false

section
variable {X : Ctx} {D : Nat → Prop} {Γ : List FE} {st : St} {ρ : Env} {a : Act} {w : World} {g : G}
/-! ### Nil slices taken for lists -/
theorem TInv.reslot (h : TInv X D st ρ a w g) {i : Nat} {sv : SV} (hp : PRep X.P w g (sv.enc ρ) (a.tmps.getD i undef)) : TInv X D (st.put i sv) ρ a w g := by
  refine ⟨h.typ, ⟨h.inv.size, h.inv.nodef, h.inv.ok, fun s => ?_, h.inv.row⟩, h.fixd, h.dirt⟩
  show PRep X.P w g (((st.put i sv).slot s).enc ρ) (a.tmps.getD s undef)
  rcases St.slot_put st i s sv with ⟨e, rfl⟩ | ⟨e, hs⟩ | e
  · rw [e]; exact hp
  · rw [e]; exact h.inv.slot s
  · rw [e]; trivial
theorem SV.isNil_eq {v : SV} (h : v.isNil = true) : v = .c .nil := by
  unfold SV.isNil at h
  split at h
  · rfl
  · cases h
theorem SC.isNil_eq {v : SC} (h : v.isNil = true) : v = .nil := by
  unfold SC.isNil at h
  split at h
  · rfl
  · cases h
theorem setR_get (st : St) (r r' : Nat) (k : RK) : (st.setR r k).rk r' = (if r' = r then k else st.rk r') ∨ (r' = r ∧ (st.setR r k).rk r' = .dead) := by
  by_cases h : r' = r
  · subst h
    rw [if_pos rfl]
    rcases setR_rk st r' k with h | h
    · exact .inl h
    · exact .inr ⟨rfl, h⟩
  · rw [if_neg h]; exact .inl (setR_rk_ne h)
theorem set_nil {cs : List SC} {j r : Nat} (hn : (cs.getD j .gone).isNil = true) (q1 : g.hdr (r, []) = .slice none 0 0) : ∀ (k : Nat) (q : C), (encL ρ (cs.set j (.h r)))[k]? = some q → ∃ q0, (encL ρ cs)[k]? = some q0 ∧ ∀ v, CRep w g q0 v → CRep w g q v := fun k q hq => by
  rw [encL_map, List.getElem?_map, Option.map_eq_some_iff] at hq
  obtain ⟨c, hc1, rfl⟩ := hq
  have hkl : k < cs.length := by have := (List.getElem?_eq_some_iff.1 hc1).1; simpa using this
  have hck : cs[k]? = some cs[k] := List.getElem?_eq_getElem hkl
  refine ⟨cs[k].enc ρ, by rw [encL_map, List.getElem?_map, hck]; rfl, fun v hv => ?_⟩
  by_cases hkj : k = j
  · subst hkj
    rw [List.getElem?_set_self hkl] at hc1
    cases hc1
    have hn := SC.isNil_eq hn
    rw [List.getD, hck] at hn
    simp only [Option.getD_some] at hn
    rw [hn] at hv
    simp only [SC.enc] at hv ⊢
    cases hv
    exact .hd _ _ q1.symm
  · rw [List.getElem?_set_ne (Ne.symm hkj), hck] at hc1
    cases hc1; exact hv
theorem adoptOne_ok (h : TInv X D st ρ a w g) (x : Ado) : ∃ g', TInv X D (adoptOne st x) ρ a w g' := by
  cases x with
  | s i e b =>
    simp only [adoptOne]
    split
    · rename_i hc
      simp only [Bool.and_eq_true] at hc
      obtain ⟨g', h', q1, _⟩ := h.adoptNew (e := e) (b := b) (nl := true) hc.1
      refine ⟨g', h'.reslot ?_⟩
      have hs := h.inv.slot i
      rw [SV.isNil_eq hc.2] at hs
      have hs : CRep w g .nil (a.tmps.getD i undef) := by simpa [SV.enc, SC.enc, PRep] using hs
      have hv : a.tmps.getD i undef = .slice none 0 0 := by
        generalize a.tmps.getD i undef = u at hs
        cases hs; rfl
      simp only [SV.enc, SC.enc, PRep]
      exact .hd _ _ (hv.trans q1.symm)
    · exact ⟨g, h⟩
  | c r j e b =>
    simp only [adoptOne]
    split
    · rename_i e0 cs hr
      split
      · rename_i hc
        simp only [Bool.and_eq_true] at hc
        obtain ⟨g', h', q1, _⟩ := h.adoptNew (e := e) (b := b) (nl := true) hc.1
        refine ⟨g', ⟨h'.typ, ⟨h'.inv.size, h'.inv.nodef, h'.inv.ok, h'.inv.slot, fun l row hl => ?_⟩, h'.fixd, h'.dirt⟩⟩
        obtain ⟨l1, l2⟩ := l
        have hq : RK.rows ρ l1 (((st.push (.list e b (.nil (.sl e b)) true none)).setR r (.box e0 (cs.set j (.h st.nr)))).rk l1) l2 = some row := hl
        clear hl
        rcases setR_get (st.push (.list e b (.nil (.sl e b)) true none)) r l1 (.box e0 (cs.set j (.h st.nr))) with e1 | ⟨_, e1⟩
        · rw [e1] at hq
          split at hq
          · rename_i e2
            subst e2
            cases l2 with
            | cons q p => simp [RK.rows] at hq
            | nil =>
              simp only [RK.rows, Option.some.injEq] at hq
              subst hq
              have hlt : l1 < st.nr := rk_lt (fun e0 => by rw [hr] at e0; cases e0)
              have hold : RowRep X.P w g' (l1, []) (.row true false e0 [encL ρ cs]) := h'.inv.row (l1, []) _ (by
                show RK.rows ρ l1 ((st.push _).rk l1) [] = _
                rw [adopt_rk, if_neg (by omega), hr]; rfl)
              cases hold with
              | full _ _ _ _ b0 base n cap vs f hf =>
                have hj := set_nil (ρ := ρ) (w := w) hc.2 q1
                have get : ∀ (i : Nat) (c : List C), [encL ρ (cs.set j (.h st.nr))][i]? = some c → i = 0 ∧ c = encL ρ (cs.set j (.h st.nr)) := fun i c hc => by
                  cases i with
                  | zero => cases hc; exact ⟨rfl, rfl⟩
                  | succ i => cases hc
                refine .full _ _ _ _ b0 base n cap vs f ⟨hf.hd, hf.own, hf.heap, hf.len, hf.hcap, hf.hmax, hf.fit, hf.pos, fun i c hc => ?_, fun i c k x h1 h2 => ?_, fun i c k x h1 h2 => ?_, fun h => by cases h⟩
                · obtain ⟨rfl, rfl⟩ := get i c hc
                  have := hf.size 0 _ rfl
                  rw [encL_map, List.length_map] at this ⊢
                  rw [List.length_set]; exact this
                · obtain ⟨rfl, rfl⟩ := get i c h1
                  obtain ⟨q0, hq0, _⟩ := hj k x h2
                  exact hf.cell 0 _ k q0 rfl hq0
                · obtain ⟨rfl, rfl⟩ := get i c h1
                  obtain ⟨q0, hq0, hh⟩ := hj k x h2
                  exact hh _ (hf.rep 0 _ k q0 rfl hq0)
          · exact h'.inv.row (l1, l2) row hq
        · rw [e1, rows_dead] at hq; cases hq
      · exact ⟨g, h⟩
    · exact ⟨g, h⟩
  | g i j e b =>
    simp only [adoptOne]
    split
    · rename_i cs hr
      split
      · rename_i hc
        simp only [Bool.and_eq_true] at hc
        obtain ⟨g', h', q1, _⟩ := h.adoptNew (e := e) (b := b) (nl := true) hc.1
        refine ⟨g', h'.reslot ?_⟩
        have hs := h'.inv.slot i
        have hs : PRep X.P w g' ((st.slot i).enc ρ) (a.tmps.getD i undef) := hs
        rw [hr] at hs
        obtain ⟨vs, e1, e2, e3⟩ := hs
        refine ⟨vs, e1, by rw [e2, encL_map, encL_map, List.length_map, List.length_map, List.length_set], fun k q hq => ?_⟩
        obtain ⟨q0, hq0, hh⟩ := set_nil (ρ := ρ) (w := w) hc.2 q1 k q hq
        obtain ⟨u, hu, hr⟩ := e3 k q0 hq0
        exact ⟨u, hu, hh u hr⟩
      · exact ⟨g, h⟩
    · exact ⟨g, h⟩
theorem adoptAll_ok : ∀ (l : List Ado) (st : St) (g : G), TInv X D st ρ a w g → ∃ g', TInv X D (adoptAll l st) ρ a w g'
  | [], st, g, h => ⟨g, h⟩
  | x :: l, st, g, h => by
    obtain ⟨g', h'⟩ := adoptOne_ok h x
    exact adoptAll_ok l _ g' h'
theorem adoptOne_ts (st : St) (x : Ado) : (adoptOne st x).ts = st.ts ∧ (adoptOne st x).fix = st.fix := by
  cases x with
  | s i e b => simp only [adoptOne]; split <;> exact ⟨rfl, rfl⟩
  | c r j e b => simp only [adoptOne]; split <;> (try split) <;> exact ⟨rfl, rfl⟩
  | g i j e b => simp only [adoptOne]; split <;> (try split) <;> exact ⟨rfl, rfl⟩
theorem adoptAll_ts : ∀ (l : List Ado) (st : St), (adoptAll l st).ts = st.ts ∧ (adoptAll l st).fix = st.fix
  | [], st => ⟨rfl, rfl⟩
  | x :: l, st => by
    have h1 := adoptAll_ts l (adoptOne st x)
    have h2 := adoptOne_ts st x
    exact ⟨h1.1.trans h2.1, h1.2.trans h2.2⟩

/-! ### Roots renamed -/
theorem mapR_mem : ∀ {σ : List (Nat × Nat)} {r r' : Nat}, mapR σ r = some r' → (r, r') ∈ σ
  | [], _, _, h => by simp [mapR] at h
  | p :: σ, r, r', h => by
    simp only [mapR] at h
    cases hb : Nat.beq p.1 r with
    | true =>
      rw [hb] at h
      have := Nat.eq_of_beq_eq_true hb
      simp only [cond_true, Option.some.injEq] at h
      subst this h
      exact List.mem_cons_self
    | false => rw [hb] at h; exact List.mem_cons_of_mem _ (mapR_mem h)
theorem unmapR_mem : ∀ {σ : List (Nat × Nat)} {r r' : Nat}, unmapR σ r' = some r → (r, r') ∈ σ
  | [], _, _, h => by simp [unmapR] at h
  | p :: σ, r, r', h => by
    simp only [unmapR] at h
    cases hb : Nat.beq p.2 r' with
    | true =>
      rw [hb] at h
      have := Nat.eq_of_beq_eq_true hb
      simp only [cond_true, Option.some.injEq] at h
      subst this h
      exact List.mem_cons_self
    | false => rw [hb] at h; exact List.mem_cons_of_mem _ (unmapR_mem h)
theorem mem_mapR : ∀ {σ : List (Nat × Nat)} {r r' : Nat}, nodup (σ.map (·.1)) = true → (r, r') ∈ σ → mapR σ r = some r'
  | [], _, _, _, h => by simp at h
  | p :: σ, r, r', hn, h => by
    simp only [List.map_cons, nodup, Bool.and_eq_true, Bool.not_eq_true'] at hn
    simp only [mapR]
    rcases List.mem_cons.1 h with e | h
    · subst e; simp
    · have hne : p.1 ≠ r := fun e => by
        have : (σ.map (·.1)).contains p.1 = true := by simp only [List.contains_iff_mem, List.mem_map]; exact ⟨_, h, e.symm⟩
        rw [this] at hn; cases hn.1
      rw [beqN hne]; exact mem_mapR hn.2 h
theorem mem_unmapR : ∀ {σ : List (Nat × Nat)} {r r' : Nat}, nodup (σ.map (·.2)) = true → (r, r') ∈ σ → unmapR σ r' = some r
  | [], _, _, _, h => by simp at h
  | p :: σ, r, r', hn, h => by
    simp only [List.map_cons, nodup, Bool.and_eq_true, Bool.not_eq_true'] at hn
    simp only [unmapR]
    rcases List.mem_cons.1 h with e | h
    · subst e; simp
    · have hne : p.2 ≠ r' := fun e => by
        have : (σ.map (·.2)).contains p.2 = true := by simp only [List.contains_iff_mem, List.mem_map]; exact ⟨_, h, e.symm⟩
        rw [this] at hn; cases hn.1
      rw [beqN hne]; exact mem_unmapR hn.2 h
def mlS (σ : List (Nat × Nat)) (l l' : Loc) : Prop := mapR σ l.1 = some l'.1 ∧ l.2 = l'.2
def mrS (σ : List (Nat × Nat)) (rg rg' : Rg) : Prop := (rg = none ∧ rg' = none) ∨ ∃ r r', rg = some r ∧ rg' = some r' ∧ mapR σ r = some r'
theorem vc_rel {ml : Loc → Loc → Prop} {mr : Rg → Rg → Prop} (v : V) : C.Rel ml mr v.c v.c := by
  unfold V.c
  split
  · exact .int _ _
  · exact .bool _
  · exact .gone _
theorem els_rel {ml : Loc → Loc → Prop} {mr : Rg → Rg → Prop} {rg rg' : Rg} (hr : mr rg rg') (v : V) : C.Rel ml mr (.ro rg (v.els rg)) (.ro rg' (v.els rg')) := by
  unfold V.els
  split
  · rename_i e a xs
    have := enc_rel (ml := ml) (.sl e a) (.inr hr) xs 0 _ _ rfl rfl
    exact this
  · exact .ro _ _ _ _ rfl (fun h => absurd rfl h) (fun i cs cs' h => by simp at h) (fun i cs cs' k x x' h => by simp at h)
mutual
theorem SC.rel_rel (σ : List (Nat × Nat)) (ρ : Env) : ∀ (c : SC), C.Rel (mlS σ) (mrS σ) (c.enc ρ) ((c.rel σ).enc ρ)
  | .v x => by simp only [SC.rel, SC.enc]; exact vc_rel _
  | .s none x => by simp only [SC.rel, SC.enc]; exact els_rel (.inl ⟨rfl, rfl⟩) _
  | .s (some r) x => by
    simp only [SC.rel]
    cases h : mapR σ r with
    | none => simp only [SC.enc]; exact .gone _
    | some r' => simp only [SC.enc]; exact els_rel (.inr ⟨r, r', rfl, rfl, h⟩) _
  | .nil => by simp only [SC.rel, SC.enc]; exact .nil
  | .h r => by
    simp only [SC.rel]
    cases h : mapR σ r with
    | none => simp only [SC.enc]; exact .gone _
    | some r' => simp only [SC.enc]; exact .hd _ _ ⟨h, rfl⟩
  | .hn r i k x => by
    simp only [SC.rel]
    cases h : mapR σ r with
    | none => simp only [SC.enc]; exact .gone _
    | some r' => simp only [SC.enc]; exact .both _ _ _ _ (.hd _ _ ⟨h, rfl⟩) (els_rel (.inr ⟨r, r', rfl, rfl, h⟩) _)
  | .hs r lo hi x => by
    simp only [SC.rel]
    cases h : mapR σ r with
    | none => simp only [SC.enc]; exact .gone _
    | some r' => simp only [SC.enc]; exact .both _ _ _ _ (.sub _ _ _ _ _ ⟨h, rfl⟩) (els_rel (.inr ⟨r, r', rfl, rfl, h⟩) _)
  | .rp none cells => by
    simp only [SC.rel, SC.enc]
    exact .rp _ _ _ _ (.inl ⟨rfl, rfl⟩) (by rw [encL_map, encL_map, List.length_map, List.length_map, relL_length]; exact Nat.le_refl _) (relL_rel σ ρ cells)
  | .rp (some r) cells => by
    simp only [SC.rel]
    cases h : mapR σ r with
    | none => simp only [SC.enc]; exact .gone _
    | some r' =>
      simp only [SC.enc]
      exact .rp _ _ _ _ (.inr ⟨r, r', rfl, rfl, h⟩) (by rw [encL_map, encL_map, List.length_map, List.length_map, relL_length]; exact Nat.le_refl _) (relL_rel σ ρ cells)
  | .fn f caps => by
    simp only [SC.rel, SC.enc]
    exact .fn _ _ _ (by rw [encL_map, encL_map, List.length_map, List.length_map, relL_length]) (relL_rel σ ρ caps)
  | .gone => by simp only [SC.rel, SC.enc]; exact .gone _
theorem relL_rel (σ : List (Nat × Nat)) (ρ : Env) : ∀ (cs : List SC) (k : Nat) (x x' : C), (encL ρ cs)[k]? = some x → (encL ρ (relL σ cs))[k]? = some x' → C.Rel (mlS σ) (mrS σ) x x'
  | [], k, x, x', h, _ => by simp [encL] at h
  | c :: cs, 0, x, x', h, h' => by
    simp only [relL, encL, List.getElem?_cons_zero, Option.some.injEq] at h h'
    subst h h'
    exact SC.rel_rel σ ρ c
  | c :: cs, k + 1, x, x', h, h' => by
    simp only [relL, encL, List.getElem?_cons_succ] at h h'
    exact relL_rel σ ρ cs k x x' h h'
theorem relL_length {σ : List (Nat × Nat)} : ∀ (cs : List SC), (relL σ cs).length = cs.length
  | [] => by simp [relL]
  | c :: cs => by simp [relL, relL_length cs]
end
def relG (σ : List (Nat × Nat)) (g : G) : G :=
  { S := g.S, own := fun b => match g.own b with | some l => (mapR σ l.1).map fun r => (r, l.2) | none => none, hdr := fun l => match unmapR σ l.1 with | some r => g.hdr (r, l.2) | none => undef }
section
variable {σ : List (Nat × Nat)} (h1 : nodup (σ.map (·.1)) = true) (h2 : nodup (σ.map (·.2)) = true)
include h1 h2
theorem relG_hd : ∀ l l', mlS σ l l' → (relG σ g).hdr l' = g.hdr l := fun l l' ⟨q1, q2⟩ => by
  obtain ⟨l1, l2⟩ := l
  obtain ⟨l3, l4⟩ := l'
  simp only at q1 q2
  subst q2
  simp only [relG, mem_unmapR h2 (mapR_mem q1)]
theorem relG_reg : ∀ rg rg', mrS σ rg rg' → ∀ b, g.reg rg b → (relG σ g).reg rg' b ∧ w.heap[b]? = w.heap[b]? := fun rg rg' hr b hb => by
  refine ⟨?_, rfl⟩
  rcases hr with ⟨rfl, rfl⟩ | ⟨r, r', rfl, rfl, hm⟩
  · exact hb
  · rcases hb with hb | ⟨p, hb⟩
    · exact .inl hb
    · exact .inr ⟨p, by simp only [relG, hb, hm]; rfl⟩
theorem aggRel {cs : List SC} {v : Value} (h : AggRep w g (encL ρ cs) v) : AggRep w (relG σ g) (encL ρ (relL σ cs)) v := by
  obtain ⟨vs, e1, e2, e3⟩ := h
  refine ⟨vs, e1, by rw [e2, encL_map, encL_map, List.length_map, List.length_map, relL_length], fun k q hq => ?_⟩
  obtain ⟨q0, hq0⟩ := get_other (l := encL ρ cs) (by rw [encL_map, encL_map, List.length_map, List.length_map, relL_length]; exact Nat.le_refl _) hq
  obtain ⟨u, hu, hr⟩ := e3 k q0 hq0
  exact ⟨u, hu, hr.rel (relG_hd h1 h2) (relG_reg h1 h2) (relL_rel σ ρ cs k q0 q hq0 hq)⟩
theorem SV.rel_rep {P : Program} {v : Value} (sv : SV) (h : PRep P w g (sv.enc ρ) v) : PRep P w (relG σ g) ((sv.rel σ).enc ρ) v := by
  cases sv with
  | c x => exact CRep.rel h (relG_hd h1 h2) (relG_reg h1 h2) (SC.rel_rel σ ρ x)
  | agg xs => exact aggRel h1 h2 h
  | ad r e i k =>
    simp only [SV.rel]
    cases hm : mapR σ r with
    | none => trivial
    | some r' =>
      obtain ⟨b, base, q1, q2⟩ := h
      exact ⟨b, base, by rw [relG_hd h1 h2 (r, []) (r', []) ⟨hm, rfl⟩]; exact q1, q2⟩
  | ra rg cells =>
    have key : ∀ rg', mrS σ rg rg' → PRep P w (relG σ g) (.ra rg' (encL ρ (relL σ cells))) v := fun rg' hr => by
      obtain ⟨b, o, f, q1, q2, q3⟩ := h
      refine ⟨b, o, f, (relG_reg (w := w) h1 h2 rg rg' hr b q1).1, q2, fun k q hq => ?_⟩
      obtain ⟨q0, hq0⟩ := get_other (l := encL ρ cells) (by rw [encL_map, encL_map, List.length_map, List.length_map, relL_length]; exact Nat.le_refl _) hq
      exact ⟨(q3 k q0 hq0).1, (q3 k q0 hq0).2.rel (relG_hd h1 h2) (relG_reg h1 h2) (relL_rel σ ρ cells k q0 q hq0 hq)⟩
    cases rg with
    | none => exact key none (.inl ⟨rfl, rfl⟩)
    | some r =>
      simp only [SV.rel]
      cases hm : mapR σ r with
      | none => trivial
      | some r' => exact key (some r') (.inr ⟨r, r', rfl, rfl, hm⟩)
  | tup rs =>
    obtain ⟨vs, e1, e2, e3⟩ := h
    refine ⟨vs, e1, by rw [e2]; simp, fun k q hq => ?_⟩
    rw [List.getElem?_map, List.getElem?_map, Option.map_map, Option.map_eq_some_iff] at hq
    obtain ⟨y, hy, rfl⟩ := hq
    obtain ⟨u, hu, hr⟩ := e3 k (encR ρ y) (by rw [List.getElem?_map, hy]; rfl)
    refine ⟨u, hu, ?_⟩
    unfold encR at hr ⊢
    simp only [Function.comp]
    split at hr
    · rename_i hb; rw [if_pos hb]; exact aggRel h1 h2 hr
    · rename_i hb
      rw [if_neg hb]
      obtain ⟨y1, y2⟩ := y
      simp only at hr ⊢
      cases y2 with
      | nil => simp only [relL, encL] at hr ⊢; exact .gone u
      | cons c cs =>
        simp only [relL, encL] at hr ⊢
        exact CRep.rel hr (relG_hd h1 h2) (relG_reg h1 h2) (SC.rel_rel σ ρ c)
  | und => exact h
  | junk => trivial
theorem RK.rel_rows {r r' : Nat} (hm : mapR σ r' = some r) (k : RK) {p : List (Nat × Nat)} {row' : Row} (h : (k.rel σ).rows ρ r p = some row') : ∃ row, k.rows ρ r' p = some row ∧ Row.Rel (mlS σ) (mrS σ) row row' := by
  cases k with
  | box e cells =>
    simp only [RK.rel] at h
    cases p with
    | cons q p => simp [RK.rows] at h
    | nil =>
      simp only [RK.rows, Option.some.injEq] at h
      subst h
      refine ⟨_, rfl, .row _ _ _ _ _ _ (fun h => h) rfl (fun i cs cs' q1 q2 => ?_) (fun i cs cs' k x x' q1 q2 q3 q4 => ?_)⟩
      · cases i with
        | zero => cases q1; cases q2; rw [encL_map, encL_map, List.length_map, List.length_map, relL_length]
        | succ i => cases q1
      · cases i with
        | zero => cases q1; cases q2; exact relL_rel σ ρ cells k x x' q3 q4
        | succ i => cases q1
  | list e b v nl inner =>
    cases inner with
    | none => exact list_rel rfl (fun h => h) (fun p _ => ⟨hm, rfl⟩) (.inr (.inl ⟨rfl, rfl⟩)) h
    | some rg =>
      have key : ∀ rg', mrS σ rg rg' → (RK.list e b v nl (some rg')).rows ρ r p = some row' → ∃ row, (RK.list e b v nl (some rg)).rows ρ r' p = some row ∧ Row.Rel (mlS σ) (mrS σ) row row' := fun rg' hr h => by
        cases p with
        | cons q p => obtain ⟨e0, _⟩ := rows_cons_list h; cases e0
        | nil =>
          rw [rows_nil_list] at h
          cases h
          refine ⟨_, rows_nil_list .., .row _ _ _ _ _ _ (fun h => h) (by simp) (fun i cs cs' q1 q2 => ?_) (fun i cs cs' k x x' q1 q2 q3 q4 => ?_)⟩
          · rw [List.getElem?_mapIdx, Option.map_eq_some_iff] at q1 q2
            obtain ⟨z, hz, rfl⟩ := q1
            obtain ⟨z', hz', rfl⟩ := q2
            simp only [encIn, enc_length]
          · rw [List.getElem?_mapIdx, Option.map_eq_some_iff] at q1 q2
            obtain ⟨z, hz, rfl⟩ := q1
            obtain ⟨z', hz', rfl⟩ := q2
            rw [hz] at hz'; cases hz'
            exact enc_rel b (.inr hr) z k x x' q3 q4
      cases rg with
      | none => exact key none (.inl ⟨rfl, rfl⟩) h
      | some r2 =>
        simp only [RK.rel] at h
        cases hm2 : mapR σ r2 with
        | none => rw [hm2] at h; simp only [rows_dead] at h; cases h
        | some r3 => rw [hm2] at h; exact key (some r3) (.inr ⟨r2, r3, rfl, rfl, hm2⟩) h
  | listH e b v nl i k => simp only [RK.rel, rows_dead] at h; cases h
  | mp v =>
    simp only [RK.rel] at h
    cases p with
    | cons q p => simp [RK.rows] at h
    | nil =>
      simp only [RK.rows, Option.some.injEq] at h
      subst h
      exact ⟨_, rfl, .mp _⟩
  | dead => simp only [RK.rel, rows_dead] at h; cases h
theorem TInv.rel (h : TInv X D st ρ a w g) (n : Nat) (hfix : ∀ r, r ∈ st.fix → mapR σ r = some r) (hd : ∀ b, ¬ D b) : TInv X D (st.rel σ n) ρ a w (relG σ g) := by
  have hok := h.inv.ok
  refine ⟨h.typ, ⟨h.inv.size, h.inv.nodef, ⟨hok.chg, hok.base, hok.S, fun b l hl => ?_⟩, fun s => ?_, fun l row hl => ?_⟩, fun r hr => ?_, fun b hb => absurd hb (hd b)⟩
  · simp only [relG] at hl
    split at hl
    · rename_i l0 h0; exact hok.own b l0 h0
    · cases hl
  · have e : (st.rel σ n).slot s = (st.slot s).rel σ := by
      unfold St.rel St.slot
      simp only [List.getD, List.getElem?_map]
      cases st.slots[s]? <;> rfl
    show PRep X.P w _ (((st.rel σ n).slot s).enc ρ) _
    rw [e]
    exact SV.rel_rep h1 h2 _ (h.inv.slot s)
  · obtain ⟨l1, l2⟩ := l
    have hl : RK.rows ρ l1 ((st.rel σ n).rk l1) l2 = some row := hl
    have e : (st.rel σ n).rk l1 = .dead ∨ ∃ r', unmapR σ l1 = some r' ∧ (st.rel σ n).rk l1 = (st.rk r').rel σ := by
      unfold St.rel
      simp only [St.rk, List.getD, List.getElem?_map]
      by_cases hlt : l1 < n
      · rw [List.getElem?_range hlt]
        simp only [Option.map_some, Option.getD_some]
        cases hu : unmapR σ l1 with
        | none => exact .inl rfl
        | some r' => exact .inr ⟨r', rfl, rfl⟩
      · rw [List.getElem?_eq_none (by simpa using hlt)]; exact .inl rfl
    rcases e with e | ⟨r', hu, e⟩
    · rw [e, rows_dead] at hl; cases hl
    · rw [e] at hl
      have hm := mem_mapR h1 (unmapR_mem hu)
      obtain ⟨row0, h3, h4⟩ := RK.rel_rows h1 h2 hm (st.rk r') hl
      exact (h.inv.row (r', l2) row0 h3).rel (relG_hd h1 h2) (relG_reg h1 h2) (relG_hd h1 h2 _ _ ⟨hm, rfl⟩) (fun b hb => ⟨by simp only [relG, hb, hm]; rfl, rfl⟩) h4
  · rw [relG_hd h1 h2 (r, []) (r, []) ⟨hfix r hr, rfl⟩]; exact h.fixd r hr
end
end
end Go.Pu
