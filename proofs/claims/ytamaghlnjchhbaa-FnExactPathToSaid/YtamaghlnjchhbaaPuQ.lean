/-
  Own work. Append, from the operation: a nil destination is taken for a new owned list first.
-/
import Derived.Test.YtamaghlnjchhbaaPuP
namespace Go.Pu
open Go Go.RowKit
set_option linter.unusedVariables false
section
variable {X : Ctx} {D : Nat → Prop} {Γ : List FE} {st : St} {ρ : Env} {a : Act} {w : World} {g : G}
theorem adopt_rk (st : St) (k : RK) (r : Nat) : (st.push k).rk r = if r = st.nr then k else st.rk r := by
  unfold St.push St.rk St.nr
  simp only [List.getD]
  split
  · rename_i e; rw [e]; simp
  · rename_i e
    rcases Nat.lt_or_ge r st.roots.length with h' | h'
    · rw [List.getElem?_append_left h']
    · rw [List.getElem?_append_right h', List.getElem?_eq_none (by simp; omega), List.getElem?_eq_none h']
/-- A nil slice taken for an owned list: nothing turns in memory. -/
theorem TInv.adoptNew {e : TypeId} {b : Ty} {nl : Bool} (h : TInv X D st ρ a w g) (hw : st.rok = true) :
    ∃ g', TInv X D (st.push (.list e b (.nil (.sl e b)) nl none)) ρ a w g' ∧ g'.hdr (st.nr, []) = .slice none 0 0 ∧ (∀ l, l.1 ≠ st.nr → g'.hdr l = g.hdr l) ∧ g'.S = g.S ∧ g'.own = g.own := by
  unfold St.rok at hw
  simp only [Bool.and_eq_true, List.all_eq_true, Nat.blt_eq] at hw
  obtain ⟨hw, hfix⟩ := hw
  let g' : G := { S := g.S, own := g.own, hdr := fun l => if l.1 = st.nr then .slice none 0 0 else g.hdr l }
  have hok := h.inv.ok
  have hh : ∀ l, plOf (fun r => Nat.blt r st.nr) l → g'.hdr l = g.hdr l := fun l hl => by
    simp only [plOf, Nat.blt_eq] at hl
    simp only [g']
    rw [if_neg (by omega)]
  refine ⟨g', ⟨h.typ, h.inv.next (plOf fun r => Nat.blt r st.nr) (prOf fun r => Nat.blt r st.nr) hh (fun rg _ b hb => ⟨hb, rfl⟩) ⟨hok.chg, hok.base, hok.S, hok.own⟩ rfl rfl (fun s => ?_) (fun l row hl => ?_), fun r hr0 => ?_, h.dirt⟩, by simp [g'], fun l hl => by simp [g', hl], rfl, rfl⟩
  · right; left
    refine ⟨rfl, rfl, ?_⟩
    unfold St.okR at hw
    simp only [Bool.and_eq_true] at hw
    exact SV.okR_ok _ (all_slot hw.1 rfl s)
  · have hl : RK.rows ρ l.1 ((st.push (.list e b (.nil (.sl e b)) nl none)).rk l.1) l.2 = some row := hl
    rw [adopt_rk] at hl
    split at hl
    · rename_i e0
      right
      obtain ⟨l1, l2⟩ := l
      simp only at e0
      subst e0
      cases l2 with
      | nil =>
        rw [rows_nil_list] at hl
        cases hl
        have : (At.get ρ (.nil (.sl e b))).as (.sl e b) = [] := by { show V.as (.sl e b) ⟨.sl e b, []⟩ = []; exact V.as_self _ _ }
        rw [this]
        exact .nil _ _ (by simp [g'])
      | cons q p =>
        obtain ⟨_, rfl, y', hy, hs⟩ := rows_cons_list hl
        have : (At.get ρ (.nil (.sl e b))).as (.sl e b) = [] := by { show V.as (.sl e b) ⟨.sl e b, []⟩ = []; exact V.as_self _ _ }
        rw [this] at hy; simp at hy
    · rename_i e0
      left
      have hlt : l.1 < st.nr := rk_lt (fun e0 => by rw [e0, rows_dead] at hl; cases hl)
      unfold St.okR at hw
      simp only [Bool.and_eq_true] at hw
      exact ⟨hl, by simp [plOf]; exact hlt, RK.okR_ok (st.rk l.1) (all_rk hw.2 rfl l.1) (fun p _ => by simp [plOf]; exact hlt) (fun _ h => h) l.2 row hl, fun b hb => ⟨hb, rfl⟩⟩
  · rw [hh (r, []) (by simp [plOf]; exact hfix r hr0)]; exact h.fixd r hr0
variable {d : Nat} {x y : Operand} {t t' ty : TypeId} {ps : String} {af : Array Edge} {gd : Option (Nat × Bool)} {s : Step} {nr : Bool}
theorem append_ok (hN : d < X.N) {sx sy : SV} (hsx : st.val x = .ok sx) (hsy : st.val y = .ok sy) (h : stepAppend X.P st d t sx sy = .ok s) (hnr : nr = true → sx.isNil = true) :
    WStep X D Γ nr st ⟨some d, .call { callee := .builtin .append, args := #[x, y], argTypes := #[t, t] }, ty, ps, af, gd⟩ s := by
  intro ρ ρ' a w g hi hw hk hev
  have hxr := val_rep hi hsx
  unfold stepAppend at h
  split at h
  · split at h
    · split at h
      · rename_i e he _ b hb
        by_cases hc : ((adoptNew st e b).wf && (adoptNew st e b).rok) = true
        · rw [if_neg (fun hh => by rw [hc] at hh; cases hh)] at h
          simp only [Bool.and_eq_true] at hc
          obtain ⟨g', hi', q1, _⟩ := hi.adoptNew (e := e) (b := b) (nl := true) hk
          have hx : a.eval x = .slice none 0 0 := by
            have hxr : CRep w g .nil (a.eval x) := by simpa [SV.enc, SC.enc, PRep] using hxr
            generalize a.eval x = u at hxr
            cases hxr; rfl
          refine Oper.wp_mono (fun a' w' q => ⟨fun _ => q.1 q1, q.2⟩) (appFlat_ok (st := adoptNew st e b) hN h hi' hc.1 hc.2 hev (hx.trans q1.symm) (.inl hsy))
        · rw [if_pos (by rw [Bool.eq_false_iff.2 hc]; rfl)] at h; cases h
      · cases h
    · cases h
  · rename_i r
    have hx : a.eval x = g.hdr (r, []) := by
      have hxr : CRep w g (.hd (r, [])) (a.eval x) := by simpa [SV.enc, SC.enc, PRep] using hxr
      generalize a.eval x = u at hxr
      cases hxr; rename_i hv; exact hv
    refine Oper.wp_mono (fun a' w' q => ⟨fun hn => ?_, q.2⟩) (appFlat_ok hN h hi hw hk hev hx (.inl hsy))
    have := hnr hn
    simp [SV.isNil] at this
  · cases h
end
end Go.Pu
