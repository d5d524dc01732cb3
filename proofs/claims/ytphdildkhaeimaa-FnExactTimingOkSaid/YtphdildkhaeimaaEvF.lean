/-
  Own work. The rules of the frame logic: stores into what the call owns; new rows; append.
-/
import Derived.Test.YtphdildkhaeimaaEvE
namespace Go.Ev
open Go Go.RowKit

theorem setRow_size (w : World) (b : Nat) (cs : Array Value) : (w.setRow b cs).heap.size = w.heap.size := by simp [World.setRow]
def splice (c : List T) (k : Nat) (xs : List T) : List T := c.take k ++ xs ++ c.drop (k + xs.length)
theorem splice_get (c : List T) (k : Nat) (xs : List T) (hk : k + xs.length ≤ c.length) (j : Nat) : (splice c k xs)[j]? = if k ≤ j ∧ j < k + xs.length then xs[j - k]? else c[j]? := by
  unfold splice
  rw [List.append_assoc, List.getElem?_append, List.length_take, Nat.min_eq_left (by omega)]
  split
  · rename_i h; rw [if_neg (by omega), List.getElem?_take, if_pos h]
  · rename_i h
    rw [List.getElem?_append]
    split
    · rename_i h2; rw [if_pos (by omega)]
    · rename_i h2; rw [if_neg (by omega), List.getElem?_drop]; congr 1; omega
theorem vsplice_get (cs vs : List Value) (o : Nat) (ho : o + vs.length ≤ cs.length) (j : Nat) : (cs.take o ++ vs ++ cs.drop (o + vs.length))[j]? = if o ≤ j ∧ j < o + vs.length then vs[j - o]? else cs[j]? := by
  rw [List.append_assoc, List.getElem?_append, List.length_take, Nat.min_eq_left (by omega)]
  split
  · rename_i h; rw [if_neg (by omega), List.getElem?_take, if_pos h]
  · rename_i h
    rw [List.getElem?_append]
    split
    · rename_i h2; rw [if_pos (by omega)]
    · rename_i h2; rw [if_neg (by omega), List.getElem?_drop]; congr 1; omega
theorem mul_lt_help {i i' k k' s : Nat} (hk : k < s) (hk' : k' < s) (h : i * s + k = i' * s + k') : i = i' ∧ k = k' := by
  have h1 : (i * s + k) / s = i := by rw [Nat.mul_comm, Nat.mul_add_div (by omega), Nat.div_eq_of_lt hk]; rfl
  have h2 : (i' * s + k') / s = i' := by rw [Nat.mul_comm, Nat.mul_add_div (by omega), Nat.div_eq_of_lt hk']; rfl
  have : i = i' := by rw [← h1, h, h2]
  subst this
  exact ⟨rfl, by omega⟩
theorem seg_help {i i' k k' s m : Nat} (hk : k + m ≤ s) (hk' : k' < s) (hne : i' ≠ i) (h1 : i * s + k ≤ i' * s + k') (h2 : i' * s + k' < i * s + k + m) : False := by
  rcases Nat.lt_or_gt_of_ne hne with h | h
  · have : (i' + 1) * s ≤ i * s := Nat.mul_le_mul_right s h
    rw [Nat.add_mul, Nat.one_mul] at this
    omega
  · have : (i + 1) * s ≤ i' * s := Nat.mul_le_mul_right s h
    rw [Nat.add_mul, Nat.one_mul] at this
    omega

theorem set_get {α : Type} {l : List α} {i i' : Nat} {x y : α} (hi : i < l.length) (h : (l.set i x)[i']? = some y) : (i' = i ∧ y = x) ∨ (i' ≠ i ∧ l[i']? = some y) := by
  by_cases hii : i' = i
  · subst hii
    rw [List.getElem?_set_self hi] at h
    exact .inl ⟨rfl, (Option.some.inj h).symm⟩
  · rw [List.getElem?_set_ne (Ne.symm hii)] at h
    exact .inr ⟨hii, h⟩

section
variable {X : Ctx} {fr : Frame}

/-- A store into an owned row. -/
theorem inv_store {a : Act} {w : World} {g : G} (hinv : InvG X fr a w g) {s : Nat} {bx : Bool} {e : TypeId} {els : List (List T)} (hf : fr s = .t (.own bx e els)) {i k : Nat} {c : List T} (hi : els[i]? = some c) {xs : List T} {vs : List Value}
    (hk : k + xs.length ≤ c.length) (hl : vs.length = xs.length) (hr : ∀ (j : Nat) (x : T), xs[j]? = some x → ∃ u, vs[j]? = some u ∧ IRep w g.S x u)
    {b base n cap : Nat} {cs : Array Value} (h1 : g.hdr (s, []) = (if bx then .pointer (some ⟨b, base, none⟩) else .slice (some ⟨b, base, none⟩) n cap)) (hh : w.heap[b]? = some (.cells cs e (0, 0))) :
    Inv X (upd fr s (.t (.own bx e (els.set i (splice c k xs))))) a (w.setRow b (cs.toList.take (base + (i * szOf X.P e + k)) ++ vs ++ cs.toList.drop (base + (i * szOf X.P e + k) + vs.length)).toArray) := by
  obtain ⟨b', base', n', cap', cs0, f, h1', h2, h3, h4, h5, h6, h7, h8, h9, h10, h11, h12⟩ := own_row hinv hf (ne_of_get hi)
  have hb : b = b' ∧ base = base' ∧ (bx = false → n = n' ∧ cap = cap') := by
    rw [h1] at h1'
    cases bx <;> simp at h1' <;> simp [h1']
  obtain ⟨rfl, rfl, hnc⟩ := hb
  rw [hh] at h4
  cases h4
  have hcl : c.length = szOf X.P e := h10 i c hi
  have hilt : i < els.length := (List.getElem?_eq_some_iff.1 hi).1
  have hoff : base + (i * szOf X.P e + k) + vs.length ≤ cs.size := by
    have : (i + 1) * szOf X.P e ≤ cap' * szOf X.P e := Nat.mul_le_mul_right _ (by omega)
    rw [Nat.add_mul, Nat.one_mul] at this
    omega
  have hoff' : base + (i * szOf X.P e + k) + vs.length ≤ cs.toList.length := by simpa using hoff
  have hblt : b < w.heap.size := (Array.getElem?_eq_some_iff.1 hh).1
  have hother : ∀ b', b' ≠ b → (w.setRow b (cs.toList.take (base + (i * szOf X.P e + k)) ++ vs ++ cs.toList.drop (base + (i * szOf X.P e + k) + vs.length)).toArray).heap[b']? = w.heap[b']? := fun b' hb' => setRow_other w b b' _ hb'
  have hok := hinv.ok
  have hob := hok.own b _ h3
  have hSne : ∀ b', g.S b' → b' ≠ b := fun b' hb' e0 => by subst e0; exact hob.2.2 hb'
  refine ⟨g, ⟨hinv.size, hinv.nodef, ⟨?_, by rw [setRow_size]; exact hok.base, fun b' hb' => by rw [setRow_size]; exact hok.S b' hb', fun b' l hl => by rw [setRow_size]; exact hok.own b' l hl⟩, fun s' => ?_⟩⟩
  · exact hok.bel.trans ⟨rfl, rfl, rfl, by rw [setRow_size]; exact Nat.le_refl _, fun k' hk' => hother k' (by omega)⟩
  · by_cases hs : s' = s
    · subst hs
      rw [upd_same]
      show Rep X.P _ g (s', []) _ _
      have hrow := setRow_heap w b cs (cs.toList.take (base + (i * szOf X.P e + k)) ++ vs ++ cs.toList.drop (base + (i * szOf X.P e + k) + vs.length)).toArray e (0, 0) hh
      have hsz' : ∀ (i' : Nat) (c' : List T), (els.set i (splice c k xs))[i']? = some c' → c'.length = szOf X.P e := fun i' c' hc' => by
        rcases set_get hilt hc' with ⟨rfl, rfl⟩ | ⟨hii, hc'⟩
        · unfold splice
          simp only [List.length_append, List.length_take, List.length_drop]
          omega
        · exact h10 i' c' hc'
      refine .own (s', []) bx e _ b base n' cap' _ (fun i' k' => if i' = i ∧ k ≤ k' ∧ k' < k + xs.length then vs.getD (k' - k) undef else f i' k') _ (h2.trans h1') h2.symm h3 hrow (by rw [List.length_set]; exact h5) h6 h7 ?_ h9 hsz' ?_ ?_
      · rw [h8]
        simp only [List.size_toArray, List.length_append, List.length_take, List.length_drop, Array.length_toList]
        omega
      · intro i' c' k' x hc' hx
        have hk'lt : k' < szOf X.P e := by rw [← hsz' i' c' hc']; exact (List.getElem?_eq_some_iff.1 hx).1
        rw [List.getElem?_toArray, vsplice_get _ _ _ hoff']
        rcases set_get hilt hc' with ⟨rfl, rfl⟩ | ⟨hii, hc'⟩
        · rw [splice_get _ _ _ hk] at hx
          by_cases hin : k ≤ k' ∧ k' < k + xs.length
          · rw [if_pos (by omega), if_pos ⟨rfl, hin⟩]
            rw [if_pos hin] at hx
            obtain ⟨u, hu, _⟩ := hr _ _ hx
            have : base + (i' * szOf X.P e + k') - (base + (i' * szOf X.P e + k)) = k' - k := by omega
            rw [this, hu, List.getD, hu]; rfl
          · rw [if_neg (by omega), if_neg (by rintro ⟨_, h⟩; exact hin h)]
            rw [if_neg hin] at hx
            rw [Array.getElem?_toList]
            exact h11 _ c k' x hi hx
        · have hneg : ¬ (base + (i * szOf X.P e + k) ≤ base + (i' * szOf X.P e + k') ∧ base + (i' * szOf X.P e + k') < base + (i * szOf X.P e + k) + vs.length) := fun ⟨q1, q2⟩ =>
            seg_help (i := i) (i' := i') (k := k) (k' := k') (m := vs.length) (by omega) hk'lt hii (by omega) (by omega)
          rw [if_neg hneg, if_neg (by rintro ⟨h, _⟩; exact hii h), Array.getElem?_toList]
          exact h11 i' c' k' x hc' hx
      · intro i' c' k' x hc' hx
        have keep : ∀ (i0 : Nat) (c0 : List T) (k0 : Nat) (x0 : T), els[i0]? = some c0 → c0[k0]? = some x0 → Rep X.P (w.setRow b (cs.toList.take (base + (i * szOf X.P e + k)) ++ vs ++ cs.toList.drop (base + (i * szOf X.P e + k) + vs.length)).toArray) g (s', [(i0, k0)]) x0 (f i0 k0) := fun i0 c0 k0 x0 q1 q2 =>
          (h12 i0 c0 k0 x0 q1 q2).move _ (fun b' hb' => ⟨hb', hother b' (hSne b' hb')⟩) (fun b' q hq => ⟨hq, hother b' (fun e0 => by subst e0; rw [h3] at hq; cases hq)⟩) (fun _ => rfl)
        rcases set_get hilt hc' with ⟨rfl, rfl⟩ | ⟨hii, hc'⟩
        · rw [splice_get _ _ _ hk] at hx
          by_cases hin : k ≤ k' ∧ k' < k + xs.length
          · rw [if_pos hin] at hx
            rw [if_pos ⟨rfl, hin⟩]
            obtain ⟨u, hu, hu'⟩ := hr _ _ hx
            rw [List.getD, hu]
            exact .im _ _ _ (hu'.keep fun b' hb' => ⟨hb', hother b' (hSne b' hb')⟩)
          · rw [if_neg hin] at hx
            rw [if_neg (by rintro ⟨_, h⟩; exact hin h)]
            exact keep _ c k' x hi hx
        · rw [if_neg (by rintro ⟨h, _⟩; exact hii h)]
          exact keep i' c' k' x hc' hx
    · rw [upd_ne _ _ _ _ hs]
      exact (hinv.slot s').keep (fun b' hb' => ⟨hb', hother b' (hSne b' hb')⟩) (fun b' q hq => ⟨hq, hother b' (fun e0 => by subst e0; rw [h3] at hq; cases hq; exact hs rfl)⟩) (fun _ => rfl) (fun _ _ _ => rfl)
end

section
variable {X : Ctx} {ops : Array Oper} {rest : List (Oper × Bool)} {fr : Frame} {K : Frame → Prop} {nr : Bool}
variable {d : Nat} {x y : Operand} {t t' ty : TypeId} {ps : String} {af : Array Edge} {gd : Option (Nat × Bool)}

theorem run_storeVar {P : Program} {w : World} {t : TypeId} {v : Value} {b off : Nat} {cs : Array Value} {e : TypeId} {n : Nat} (hs : szOf P t = n + 1) (hv : v.cells.size = n + 1) (h1 : ∀ u ∈ v.cells.toList, u.oneCell' = true) (hh : w.heap[b]? = some (.cells cs e (0, 0))) (hl : off + (n + 1) ≤ cs.size) :
    (storeVar t ⟨b, off, none⟩ v).run P w = .ok () (w.setRow b (cs.toList.take off ++ v.cells.toList ++ cs.toList.drop (off + v.cells.toList.length)).toArray) := by
  have hst := run_storeCells_at P b off e v.cells.toList 0 cs w hh (by simp [hv]; omega) h1
  simp only [Nat.add_zero] at hst
  simp [storeVar, run_sizeOf hs, hv, hst]
theorem irep_one {w : World} {S : Nat → Prop} {x : T} {v : Value} (h : IRep w S x v) (hg : x ≠ .gone) : v.oneCell' = true := by
  cases h <;> first | rfl | exact absurd rfl hg

theorem EvO.w0 {o : Oper} {fr' : Frame} (hq : isQ o.op = false) (hw : wantF ops fr o.guard = some true) (hnr : nr = false)
    (hrun : ∀ (a : Act) (w : World) (g : G), InvG X fr a w g → o.wp X.P a w (fun a' w' => Inv X fr' a' w') (fun _ _ _ => False))
    (h : EvO X ops rest fr' K) : EvO X ops ((o, nr) :: rest) fr K := by
  refine ⟨fun a w ⟨g, hi⟩ => ?_⟩
  unfold LexL
  rw [if_neg (by rw [hq]; exact Bool.false_ne_true), if_pos (inv_wanted hi hw)]
  exact Oper.wp_mono (fun a' w' h2 => ⟨fun hn => (by rw [hnr] at hn; cases hn), h.run a' w' h2⟩) (hrun a w g hi)

/-- A store of one cell into an owned row or box. -/
theorem EvO.store {e : TypeId} {s i k : Nat} {bx : Bool} {els : List (List T)} {c : List T} {q : T} (hx : val fr x = .addr e s [] i k) (hf : fr s = .t (.own bx e els)) (hi : els[i]? = some c) (hy : val fr y = .t q) (hk : Nat.blt k c.length = true)
    (ht : szOf X.P t = 0 + 1) (hw : wantF ops fr gd = some true) (hnr : nr = false)
    (h : EvO X ops rest (upd fr s (.t (.own bx e (els.set i (splice c k [q]))))) K) : EvO X ops ((⟨none, .store t x y, ty, ps, af, gd⟩, nr) :: rest) fr K :=
  EvO.w0 rfl hw hnr (fun a w g hinv => by
    have hp := inv_val hinv 0 x
    rw [hx] at hp
    obtain ⟨b, base, hd, hv⟩ := hp
    have hyr := arg_rep hinv y
    unfold argOf at hyr
    rw [hy] at hyr
    have hyr : IRep w g.S q (a.eval y) := hyr
    have hg : q ≠ .gone := fun e0 => by have := val_imm hy; rw [e0] at this; cases this
    obtain ⟨b', base', n', cap, cs, f, h1, _, _, h4, h5, h6, _, h8, h9, h10, _⟩ := own_row hinv hf (ne_of_get hi)
    obtain ⟨rfl, rfl⟩ := hdrAt_own hd h1
    have hklt : k < c.length := by simpa using hk
    have hilt : i < els.length := (List.getElem?_eq_some_iff.1 hi).1
    have hcl := h10 i c hi
    have hoff : base + (i * szOf X.P e + k) + (0 + 1) ≤ cs.size := by
      have : (i + 1) * szOf X.P e ≤ cap * szOf X.P e := Nat.mul_le_mul_right _ (by omega)
      rw [Nat.add_mul, Nat.one_mul] at this
      omega
    have hc1 := irep_cells hyr hg
    have hrun := run_storeVar (P := X.P) (w := w) (t := t) (v := a.eval y) (b := b) (off := base + (i * szOf X.P e + k)) (cs := cs) (e := e) (n := 0) ht (by rw [hc1]; rfl) (by rw [hc1]; simp; exact irep_one hyr hg) h4 hoff
    rw [hc1] at hrun
    unfold Oper.wp
    simp only [execOp, hv, Instr.storeAt, Instr.sureAddr, Sem.run_bind, Sem.run_pure, Result.andThen_ok, hrun, Oper.upon]
    exact inv_store hinv hf hi (xs := [q]) (vs := [a.eval y]) (by show k + 1 ≤ _; omega) rfl (fun j q' hq => by
      cases j with
      | zero => simp at hq; subst hq; exact ⟨_, rfl, hyr⟩
      | succ j => simp at hq) h1 h4) h

theorem agg_rep {a : Act} {w : World} {g : G} (hinv : InvG X fr a w g) {xs : List T} (hy : val fr y = .agg xs) : ∃ vs : Array Value, a.eval y = .agg vs ∧ vs.size = xs.length ∧ ∀ (k : Nat) (x : T), xs[k]? = some x → ∃ u, vs[k]? = some u ∧ IRep w g.S x u := by
  have hyr := arg_rep hinv y
  unfold argOf at hyr
  rw [hy] at hyr
  exact hyr
theorem cells_one {w : World} {S : Nat → Prop} {xs : List T} {vs : Array Value} (him : xs.all T.imm = true) (hs : vs.size = xs.length) (hr : ∀ (k : Nat) (x : T), xs[k]? = some x → ∃ u, vs[k]? = some u ∧ IRep w S x u) : ∀ u ∈ vs.toList, u.oneCell' = true := by
  intro u hu
  obtain ⟨k, hk, rfl⟩ := List.getElem_of_mem hu
  have hk' : k < xs.length := by simpa [hs] using hk
  obtain ⟨u', hu', hr'⟩ := hr k _ (List.getElem?_eq_getElem hk')
  have e : vs.toList[k] = u' := by
    have : vs[k]? = some vs.toList[k] := by rw [← Array.getElem?_toList, List.getElem?_eq_getElem hk]
    rw [this] at hu'; exact Option.some.inj hu'
  rw [e]
  exact irep_one hr' (fun e0 => by have := List.all_eq_true.1 him _ (List.getElem_mem hk'); rw [e0] at this; cases this)

/-- A struct stored over a whole box, by the box's pointer. -/
theorem EvO.storeBoxAgg {e : TypeId} {s m : Nat} {c xs : List T} (hx : val fr x = .al s []) (hf : fr s = .t (.own true e [c])) (hy : val fr y = .agg xs) (hl : xs.length = c.length)
    (ht : szOf X.P t = xs.length) (hm : xs.length = m + 1) (hw : wantF ops fr gd = some true) (hnr : nr = false)
    (h : EvO X ops rest (upd fr s (.t (.own true e [xs]))) K) : EvO X ops ((⟨none, .store t x y, ty, ps, af, gd⟩, nr) :: rest) fr K :=
  EvO.w0 rfl hw hnr (fun a w g hinv => by
    have hp := inv_val hinv 0 x
    rw [hx] at hp
    have hp : a.eval x = g.hdr (s, []) := hp
    obtain ⟨vs, hv, hsz, hr⟩ := agg_rep hinv hy
    obtain ⟨b, base, n', cap, cs, f, h1, _, _, h4, h5, h6, _, h8, h9, h10, _⟩ := own_row hinv hf (by simp)
    have hcl := h10 0 c rfl
    have hoff : base + (m + 1) ≤ cs.size := by
      have : 1 * szOf X.P e ≤ cap * szOf X.P e := Nat.mul_le_mul_right _ (by simp at h5; omega)
      rw [Nat.one_mul] at this
      omega
    have hrun := run_storeVar (P := X.P) (w := w) (t := t) (v := .agg vs) (b := b) (off := base) (cs := cs) (e := e) (n := m) (by rw [ht, hm]) (by show vs.size = _; omega) (cells_one (val_agg_imm hy) hsz hr) h4 hoff
    simp only [if_true] at h1
    unfold Oper.wp
    simp only [execOp, hp, h1, hv, Instr.storeAt, Instr.sureAddr, Sem.run_bind, Sem.run_pure, Result.andThen_ok, hrun, Oper.upon]
    have := inv_store hinv hf (i := 0) (k := 0) (c := c) rfl (xs := xs) (vs := vs.toList) (by omega) (by simpa using hsz) (fun j q hq => by
      obtain ⟨u, hu, hu'⟩ := hr j q hq
      exact ⟨u, by simpa using hu, hu'⟩) (b := b) (base := base) (n := n') (cap := cap) (by simpa using h1) h4
    have e1 : splice c 0 xs = xs := by unfold splice; simp; omega
    have e2 : base + (0 * szOf X.P e + 0) = base := by simp
    rw [e1, e2] at this
    exact this) h
/-- A struct stored into an element. -/
theorem EvO.storeAgg {e : TypeId} {s i m : Nat} {bx : Bool} {els : List (List T)} {c xs : List T} (hx : val fr x = .addr e s [] i 0) (hf : fr s = .t (.own bx e els)) (hi : els[i]? = some c) (hy : val fr y = .agg xs) (hl : xs.length = c.length)
    (ht : szOf X.P t = xs.length) (hm : xs.length = m + 1) (hw : wantF ops fr gd = some true) (hnr : nr = false)
    (h : EvO X ops rest (upd fr s (.t (.own bx e (els.set i xs)))) K) : EvO X ops ((⟨none, .store t x y, ty, ps, af, gd⟩, nr) :: rest) fr K :=
  EvO.w0 rfl hw hnr (fun a w g hinv => by
    have hp := inv_val hinv 0 x
    rw [hx] at hp
    obtain ⟨b, base, hd, hv0⟩ := hp
    obtain ⟨vs, hv, hsz, hr⟩ := agg_rep hinv hy
    obtain ⟨b', base', n', cap, cs, f, h1, _, _, h4, h5, h6, _, h8, h9, h10, _⟩ := own_row hinv hf (ne_of_get hi)
    obtain ⟨rfl, rfl⟩ := hdrAt_own hd h1
    have hilt : i < els.length := (List.getElem?_eq_some_iff.1 hi).1
    have hcl := h10 i c hi
    have hoff : base + (i * szOf X.P e + 0) + (m + 1) ≤ cs.size := by
      have : (i + 1) * szOf X.P e ≤ cap * szOf X.P e := Nat.mul_le_mul_right _ (by omega)
      rw [Nat.add_mul, Nat.one_mul] at this
      omega
    have hrun := run_storeVar (P := X.P) (w := w) (t := t) (v := .agg vs) (b := b) (off := base + (i * szOf X.P e + 0)) (cs := cs) (e := e) (n := m) (by rw [ht, hm]) (by show vs.size = _; omega) (cells_one (val_agg_imm hy) hsz hr) h4 hoff
    unfold Oper.wp
    simp only [execOp, hv0, hv, Instr.storeAt, Instr.sureAddr, Sem.run_bind, Sem.run_pure, Result.andThen_ok, hrun, Oper.upon]
    have := inv_store hinv hf (i := i) (k := 0) (c := c) hi (xs := xs) (vs := vs.toList) (by omega) (by simpa using hsz) (fun j q hq => by
      obtain ⟨u, hu, hu'⟩ := hr j q hq
      exact ⟨u, by simpa using hu, hu'⟩) h1 h4
    have e1 : splice c 0 xs = xs := by unfold splice; simp; omega
    rw [e1] at this
    exact this) h

/-! ### New rows -/
def zeroC : Value → Option T
  | .int .i64 z => some (.int z)
  | .bool b => some (.bool b)
  | .slice none 0 0 => some .nil
  | _ => none
def zeroL : List Value → Option (List T)
  | [] => some []
  | v :: vs => match zeroC v, zeroL vs with
    | some x, some xs => some (x :: xs)
    | _, _ => none
def zeroT (P : Program) (e : TypeId) : Option (List T) := match P.info? e with
  | some i => match i.zero with
    | some z => zeroL z.cells.toList
    | none => none
  | none => none
theorem zeroC_rep {w : World} {S : Nat → Prop} {v : Value} {x : T} (h : zeroC v = some x) : IRep w S x v := by
  unfold zeroC at h
  split at h <;> cases h
  · exact .int _
  · exact .bool _
  · exact .nil
theorem zeroL_get : ∀ {vs : List Value} {xs : List T}, zeroL vs = some xs → vs.length = xs.length ∧ ∀ (k : Nat) (x : T), xs[k]? = some x → ∃ u, vs[k]? = some u ∧ zeroC u = some x
  | [], xs, h => by simp [zeroL] at h; subst h; exact ⟨rfl, fun k x hx => by simp at hx⟩
  | v :: vs, xs, h => by
    unfold zeroL at h
    cases hv : zeroC v with
    | none => simp [hv] at h
    | some y =>
      cases hvs : zeroL vs with
      | none => simp [hv, hvs] at h
      | some ys =>
        simp [hv, hvs] at h
        subst h
        obtain ⟨h1, h2⟩ := zeroL_get hvs
        refine ⟨by simp [h1], fun k x hx => ?_⟩
        cases k with
        | zero => simp at hx; subst hx; exact ⟨v, rfl, hv⟩
        | succ k => simpa using h2 k x (by simpa using hx)
theorem zeroT_spec {P : Program} {e : TypeId} {xs : List T} (h : zeroT P e = some xs) : ∃ i z, P.info? e = some i ∧ i.zero = some z ∧ z.cells.size = xs.length ∧ ∀ (k : Nat) (x : T), xs[k]? = some x → ∃ u, z.cells[k]? = some u ∧ zeroC u = some x := by
  unfold zeroT at h
  cases hi : P.info? e with
  | none => simp [hi] at h
  | some i =>
    cases hz : i.zero with
    | none => simp [hi, hz] at h
    | some z =>
      simp [hi, hz] at h
      obtain ⟨h1, h2⟩ := zeroL_get h
      exact ⟨i, z, rfl, hz, by simpa using h1, fun k x hx => by simpa using h2 k x hx⟩

/-- Op.alloc: a new variable, zeroed. -/
theorem EvO.alloc {e : TypeId} {xs : List T} (hz : zeroT X.P e = some xs) (hs : szOf X.P e = xs.length) (hne0 : xs.isEmpty = false) (hN : Nat.blt d X.N = true) (hw : wantF ops fr gd = some true)
    (h : EvO X ops rest (place fr d (.t (.own true e [xs]))) K) : EvO X ops ((⟨some d, .alloc e, ty, ps, af, gd⟩, nr) :: rest) fr K :=
  EvO.w rfl hw (fun a w g hi => by
    have hne : xs ≠ [] := by intro e0; rw [e0] at hne0; cases hne0
    obtain ⟨i, z, hinfo, hzero, hsz, hr⟩ := zeroT_spec hz
    have hrun : (execOp a.eval ⟨some d, .alloc e, ty, ps, af, gd⟩).run X.P w = .ok (.value (.pointer (some ⟨w.heap.size, 0, none⟩))) (w.alloc (.cells z.cells e)) := by
      simp [execOp, Instr.alloc, zeroValue, typeInfo, hinfo, hzero, newVar, newRow]
    unfold Oper.wp
    rw [hrun]
    refine ⟨fun _ => lat_alloc _ _, inv_alloc hi hN true e [xs] 1 z.cells (fun _ k => z.cells.getD k undef) rfl (by simp) (by simp [maxLen]) (by rw [Nat.one_mul, hs, hsz]) (by rw [hs]; exact List.length_pos_iff.2 hne) ?_ ?_ ?_⟩
    · intro i c hc
      cases i with
      | zero => simp at hc; rw [← hc, hs]
      | succ i => simp at hc
    · intro i c k q hc hq
      cases i with
      | succ i => simp at hc
      | zero =>
        simp at hc; subst hc
        obtain ⟨u, hu, _⟩ := hr k q hq
        rw [Nat.zero_mul, Nat.zero_add, hu, Array.getD_eq_getD_getElem?, hu]; rfl
    · intro i c k q hc hq
      cases i with
      | succ i => simp at hc
      | zero =>
        simp at hc; subst hc
        obtain ⟨u, hu, hu'⟩ := hr k q hq
        rw [Array.getD_eq_getD_getElem?, hu]; exact zeroC_rep hu') h

theorem madeCells_get (z : Array Value) (n m : Nat) (hm : m < n) (hz : 0 < z.size) : (madeCells z n)[m]? = z[m % z.size]? := by
  have h1 : m % z.size < z.size := Nat.mod_lt _ hz
  simp [madeCells, hm, h1]

def bytesOf (P : Program) (e : TypeId) : Nat := match P.info? e with | some i => i.bytes | none => 0
/-- make([]T, n) -/
theorem EvO.make {e : TypeId} {xs : List T} {n : Nat} (hx : val fr x = .t (.int (n : Int))) (hy : val fr y = .t (.int (n : Int))) (he : elemOf' X.P t = some e) (hz : zeroT X.P e = some xs) (hs : szOf X.P e = xs.length) (hne0 : xs.isEmpty = false)
    (hb : bytesOf X.P e * n ≤ 281474976710656) (hm : n ≤ maxLen) (hN : Nat.blt d X.N = true) (hw : wantF ops fr gd = some true)
    (h : EvO X ops rest (place fr d (.t (.own false e (List.replicate n xs)))) K) : EvO X ops ((⟨some d, .makeSlice t x y, ty, ps, af, gd⟩, nr) :: rest) fr K :=
  EvO.w rfl hw (fun a w g hi => by
    have hne : xs ≠ [] := by intro e0; rw [e0] at hne0; cases hne0
    have hpos : 0 < xs.length := List.length_pos_iff.2 hne
    obtain ⟨i, z, hinfo, hzero, hsz, hr⟩ := zeroT_spec hz
    have hisz : i.size = xs.length := by rw [← hs]; simp [szOf, hinfo]
    have hib : i.bytes = bytesOf X.P e := by simp [bytesOf, hinfo]
    have hb' : (i.bytes : Int) * (n : Int) ≤ 281474976710656 := by
      have : ((i.bytes * n : Nat) : Int) ≤ 281474976710656 := by rw [hib]; omega
      rwa [Int.natCast_mul] at this
    have hrun0 := run_make (P := X.P) w t e i z (elem_under he) hinfo hzero .i64 .i64 n n (by omega) (Int.le_refl _) hb' (by simp only [maxLen] at hm; omega)
    simp only [Int.toNat_natCast] at hrun0
    have hrun : (execOp a.eval ⟨some d, .makeSlice t x y, ty, ps, af, gd⟩).run X.P w = .ok (.value (.slice (some ⟨w.heap.size, 0, none⟩) n n)) (w.alloc (.cells (madeCells z.cells (n * i.size)) e)) := by
      simp only [execOp, inv_int hi hx, inv_int hi hy, Sem.run_bind, hrun0, Result.andThen_ok, Sem.run_pure]
    unfold Oper.wp
    rw [hrun]
    refine ⟨fun _ => lat_alloc _ _, inv_alloc hi hN false e (List.replicate n xs) n (madeCells z.cells (n * i.size)) (fun _ k => z.cells.getD k undef) (by simp) (by simp) hm (by rw [size_madeCells, hs, hisz]) (by rw [hs]; exact hpos) ?_ ?_ ?_⟩
    · intro j c hc
      rw [List.getElem?_replicate] at hc
      split at hc <;> cases hc
      exact hs.symm
    · intro j c k q hc hq
      rw [List.getElem?_replicate] at hc
      split at hc
      · rename_i hj
        cases hc
        have hk : k < xs.length := (List.getElem?_eq_some_iff.1 hq).1
        obtain ⟨u, hu, _⟩ := hr k q hq
        have hlt : j * szOf X.P e + k < n * i.size := by
          rw [hs, hisz]
          have : (j + 1) * xs.length ≤ n * xs.length := Nat.mul_le_mul_right _ hj
          rw [Nat.add_mul, Nat.one_mul] at this
          omega
        rw [madeCells_get _ _ _ hlt (by omega), hsz, hs, Nat.mul_comm, Nat.mul_add_mod, Nat.mod_eq_of_lt hk, hu, Array.getD_eq_getD_getElem?, hu]; rfl
      · cases hc
    · intro j c k q hc hq
      rw [List.getElem?_replicate] at hc
      split at hc
      · cases hc
        obtain ⟨u, hu, hu'⟩ := hr k q hq
        rw [Array.getD_eq_getD_getElem?, hu]; exact zeroC_rep hu'
      · cases hc) h
end
end Go.Ev
