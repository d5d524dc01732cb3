/-
  Own work. Stores.
-/
import Derived.Test.YtamaghlnjchhbaaPuN
namespace Go.Pu
open Go Go.RowKit
set_option linter.unusedVariables false

theorem setRow_size (w : World) (b : Nat) (cs : Array Value) : (w.setRow b cs).heap.size = w.heap.size := by simp [World.setRow]
theorem run_storeVar {P : Program} {w : World} {t : TypeId} {v : Value} {b off : Nat} {cs : Array Value} {e : TypeId} (h0 : 0 < szOf P t) (hv : v.cells.size = szOf P t) (h1 : ∀ u ∈ v.cells.toList, u.oneCell' = true) (hh : w.heap[b]? = some (.cells cs e (0, 0))) (hl : off + szOf P t ≤ cs.size) :
    (storeVar t ⟨b, off, none⟩ v).run P w = .ok () (w.setRow b (cs.toList.take off ++ v.cells.toList ++ cs.toList.drop (off + v.cells.toList.length)).toArray) := by
  have hst := run_storeCells_at P b off e v.cells.toList 0 cs w hh (by simp [hv]; omega) h1
  simp only [Nat.add_zero] at hst
  simp [storeVar, run_sizeOf h0, hv, hst]
theorem vsplice_get (cs vs : List Value) (o : Nat) (ho : o + vs.length ≤ cs.length) (j : Nat) : (cs.take o ++ vs ++ cs.drop (o + vs.length))[j]? = if o ≤ j ∧ j < o + vs.length then vs[j - o]? else cs[j]? := splice_get cs o vs ho j
theorem seg_help {i i' k k' s m : Nat} (hk : k + m ≤ s) (hk' : k' < s) (hne : i' ≠ i) (h1 : i * s + k ≤ i' * s + k') (h2 : i' * s + k' < i * s + k + m) : False := by
  rcases Nat.lt_or_gt_of_ne hne with h | h
  · have : (i' + 1) * s ≤ i * s := Nat.mul_le_mul_right s h
    rw [Nat.add_mul, Nat.one_mul] at this
    omega
  · have : (i + 1) * s ≤ i' * s := Nat.mul_le_mul_right s h
    rw [Nat.add_mul, Nat.one_mul] at this
    omega
theorem set_get {α : Type} {l : List α} {i i' : Nat} {x y : α} (hi : i < l.length) (h : (l.set i x)[i']? = some y) : (i' = i ∧ y = x) ∨ (i' ≠ i ∧ l[i']? = some y) := by
  by_cases hii : i' = i
  · subst hii
    rw [List.getElem?_set_self hi] at h
    exact .inl ⟨rfl, (Option.some.inj h).symm⟩
  · rw [List.getElem?_set_ne (Ne.symm hii)] at h
    exact .inr ⟨hii, h⟩
section
variable {P : Program} {w : World} {g : G}
/-- A row, written in part. -/
theorem row_write {l : Loc} {bx nl : Bool} {e : TypeId} {els els' : List (List C)} {b base n cap : Nat} {cs : Array Value} {f : Nat → Nat → Value} (hf : RowFull P w g l bx nl e els b base n cap cs f) {i k : Nat} {c : List C} (hi : els[i]? = some c)
    {vs : List Value} (hk : k + vs.length ≤ szOf P e) {g' : G} (hhd : g'.hdr l = g.hdr l) (hown : g'.own b = some l)
    (hl : els'.length = els.length) (hsz : ∀ (i' : Nat) (c' : List C), els'[i']? = some c' → c'.length = szOf P e)
    (hcell : ∀ (i' : Nat) (c' : List C) (k' : Nat) (q : C), els'[i']? = some c' → c'[k']? = some q →
      let w' := w.setRow b (cs.toList.take (base + (i * szOf P e + k)) ++ vs ++ cs.toList.drop (base + (i * szOf P e + k) + vs.length)).toArray
      (i' = i ∧ k ≤ k' ∧ k' < k + vs.length ∧ ∃ u, vs[k' - k]? = some u ∧ CRep w' g' q u) ∨ (¬ (i' = i ∧ k ≤ k' ∧ k' < k + vs.length) ∧ (∃ c0 q0, els[i']? = some c0 ∧ c0[k']? = some q0) ∧ CRep w' g' q (f i' k'))) :
    RowRep P (w.setRow b (cs.toList.take (base + (i * szOf P e + k)) ++ vs ++ cs.toList.drop (base + (i * szOf P e + k) + vs.length)).toArray) g' l (.row bx nl e els') := by
  have hilt : i < els.length := (List.getElem?_eq_some_iff.1 hi).1
  have hoff : base + (i * szOf P e + k) + vs.length ≤ cs.toList.length := by
    have h1 := hf.len
    have h2 := hf.hcap
    have h3 := hf.fit
    have : (i + 1) * szOf P e ≤ cap * szOf P e := Nat.mul_le_mul_right _ (by omega)
    rw [Nat.add_mul, Nat.one_mul] at this
    simp
    omega
  have hrow := setRow_heap w b cs (cs.toList.take (base + (i * szOf P e + k)) ++ vs ++ cs.toList.drop (base + (i * szOf P e + k) + vs.length)).toArray e (0, 0) hf.heap
  refine .full _ _ _ _ b base n cap _ (fun i' k' => if i' = i ∧ k ≤ k' ∧ k' < k + vs.length then vs.getD (k' - k) undef else f i' k') ⟨hhd.trans hf.hd, hown, hrow, by rw [hl]; exact hf.len, hf.hcap, hf.hmax, ?_, hf.pos, hsz, fun i' c' k' q q1 q2 => ?_, fun i' c' k' q q1 q2 => ?_, fun h => ?_⟩
  · rw [hf.fit]
    simp only [List.size_toArray, List.length_append, List.length_take, List.length_drop]
    simp at hoff ⊢
    omega
  · have hk' : k' < szOf P e := by rw [← hsz i' c' q1]; exact (List.getElem?_eq_some_iff.1 q2).1
    rw [List.getElem?_toArray, vsplice_get _ _ _ hoff]
    rcases hcell i' c' k' q q1 q2 with ⟨rfl, h1, h2, u, hu, _⟩ | ⟨hneg, ⟨c0, q0, h1, h2⟩, _⟩
    · rw [if_pos (by omega), if_pos ⟨rfl, h1, h2⟩]
      have : base + (i' * szOf P e + k') - (base + (i' * szOf P e + k)) = k' - k := by omega
      rw [this, List.getD, hu]; rfl
    · rw [if_neg hneg, if_neg ?_, Array.getElem?_toList]
      · exact hf.cell i' c0 k' q0 h1 h2
      · rintro ⟨q3, q4⟩
        by_cases hii : i' = i
        · subst hii; exact hneg ⟨rfl, by omega, by omega⟩
        · exact seg_help (i := i) (i' := i') (k := k) (k' := k') (m := vs.length) hk hk' hii (by omega) (by omega)
  · rcases hcell i' c' k' q q1 q2 with ⟨rfl, h1, h2, u, hu, hr⟩ | ⟨hneg, _, hr⟩
    · show CRep _ _ q (if i' = i' ∧ k ≤ k' ∧ k' < k + vs.length then vs.getD (k' - k) undef else f i' k')
      rw [if_pos ⟨rfl, h1, h2⟩, List.getD, hu]; exact hr
    · show CRep _ _ q (if i' = i ∧ k ≤ k' ∧ k' < k + vs.length then vs.getD (k' - k) undef else f i' k')
      rw [if_neg hneg]; exact hr
  · intro e0
    have := hf.nonil h
    rw [e0] at hl
    simp at hl
    exact this (List.eq_nil_of_length_eq_zero hl.symm)
theorem stab_write {m r b : Nat} {p : List (Nat × Nat)} {w' : World} (ho : g.own b = some (r, p)) (hS : ¬ g.S b) (hh : ∀ b', b' ≠ b → w'.heap[b']? = w.heap[b']?) : Stab m false r w g w' g := by
  refine ⟨fun _ _ _ _ => rfl, fun rg hne _ b' hb' => ⟨hb', hh b' fun e => ?_⟩⟩
  subst e
  cases rg with
  | none => exact hS hb'
  | some r' =>
    rcases hb' with hb' | ⟨q, hb'⟩
    · exact hS hb'
    · rw [ho] at hb'; cases hb'; exact hne rfl
end
section
variable {X : Ctx} {D : Nat → Prop} {Γ : List FE} {st : St} {ρ : Env} {a : Act} {w : World} {g : G}
theorem gok_write (h : GOK X g w) {b : Nat} {l : Loc} (ho : g.own b = some l) (cs : Array Value) : GOK X g (w.setRow b cs) := by
  obtain ⟨h1, h2, h3⟩ := h.own b l ho
  refine ⟨h.chg.trans ⟨rfl, rfl, rfl, by rw [setRow_size]; exact Nat.le_refl _, fun k hk hO => setRow_other w b k _ ?_⟩, by rw [setRow_size]; exact h.base, fun b' hb' => by rw [setRow_size]; exact h.S b' hb', fun b' l' hl => by rw [setRow_size]; exact h.own b' l' hl⟩
  intro e; subst e
  rcases h1 with h1 | h1
  · exact hO h1
  · omega
variable {d : Nat} {x y : Operand} {t t' ty : TypeId} {ps : String} {af : Array Edge} {gd : Option (Nat × Bool)} {s : Step} {nr : Bool}
theorem okL_map {ph pr : Nat → Bool} : ∀ (cs : List SC), okL ph pr cs = true → ∀ c ∈ cs, c.okR ph pr = true
  | [], _, c, h => by simp at h
  | c0 :: cs, hk, c, h => by
    simp only [okL, Bool.and_eq_true] at hk
    rcases List.mem_cons.1 h with rfl | h
    · exact hk.1
    · exact okL_map cs hk.2 c h
/-- A box, written in part. -/
theorem store_box (hi : TInv X D st ρ a w g) (hk : st.rok = true) {r : Nat} {e : TypeId} {cells cs : List SC} (hr : st.rk r = .box e cells) (k : Nat) {vy : SV} (hy : st.val y = .ok vy) (hcs : st.cells vy = .ok cs) (hkl : k + cs.length ≤ cells.length) (hlt : cs.length = szOf X.P t) (h0 : 0 < szOf X.P t) (hd : st.dirty = [])
    (haddr : ∀ b base, g.hdr (r, []) = .pointer (some ⟨b, base, none⟩) → a.eval x = .pointer (some ⟨b, base + k, none⟩)) :
    (⟨none, .store t x y, ty, ps, af, gd⟩ : Oper).wp X.P a w (fun a' w' => ∃ g', TInv X D ((st.kill false r).setR r (.box e (splice (killL false r cells) k (killL false r cs)))) ρ a' w' g') (fun _ _ _ => False) := by
  have hrow : RowRep X.P w g (r, []) (.row true false e [encL ρ cells]) := hi.inv.row (r, []) _ (by simp only [hr, RK.rows])
  have hk0 := hk
  unfold St.rok St.okR at hk
  simp only [Bool.and_eq_true] at hk
  obtain ⟨q1, q2⟩ := cells_rep hi hy hcs
  cases hrow with
  | full _ _ _ _ b base n cap vs f hf =>
    have hdd : g.hdr (r, []) = .pointer (some ⟨b, base, none⟩) := hf.hd
    have hx := haddr b base hdd
    have hlen : cells.length = szOf X.P e := by have := hf.size 0 _ rfl; rw [encL_map, List.length_map] at this; exact this
    have hfit := hf.fit
    have hn1 : n = 1 := by have := hf.len; simpa using this
    have hcap := hf.hcap
    have hle : 1 * szOf X.P e ≤ cap * szOf X.P e := Nat.mul_le_mul_right _ (by omega)
    have hone : ∀ u ∈ (a.eval y).cells.toList, u.oneCell' = true := fun u hu => by
      obtain ⟨j, hj⟩ := List.getElem?_of_mem hu
      have hjl : j < cs.length := by rw [← q1]; have := (List.getElem?_eq_some_iff.1 hj).1; simpa using this
      obtain ⟨u', hu', _, h1⟩ := q2 j _ (List.getElem?_eq_getElem (by rw [encL_map, List.length_map]; exact hjl))
      have : (a.eval y).cells[j]? = some u := by simpa using hj
      rw [this] at hu'; cases hu'; exact h1
    have hrun := run_storeVar (P := X.P) (w := w) (t := t) (v := a.eval y) (b := b) (off := base + k) (cs := vs) (e := e) h0 (by rw [q1, hlt]) hone hf.heap (by omega)
    unfold Oper.wp
    simp only [execOp, hx, Instr.storeAt, Instr.sureAddr, Sem.run_bind, Sem.run_pure, Result.andThen_ok, hrun, Oper.upon]
    have hob := hi.inv.ok.own b _ hf.own
    have hoff : base + k = base + (0 * szOf X.P e + k) := by omega
    rw [hoff]
    generalize hw' : w.setRow b (vs.toList.take (base + (0 * szOf X.P e + k)) ++ (a.eval y).cells.toList ++ vs.toList.drop (base + (0 * szOf X.P e + k) + (a.eval y).cells.toList.length)).toArray = w'
    have S : Stab st.nr false r w g w' g := stab_write hf.own hob.2.2 fun b' hb' => by rw [← hw']; exact setRow_other w b b' _ hb'
    refine ⟨g, ?_⟩
    have hrk : RK.okR (fun r => Nat.blt r st.nr) (fun r => Nat.blt r st.nr) (.box e cells) = true := by rw [← hr]; exact all_rk hk.1.2 rfl r
    have hcok := rok_cells (rok_val hk0 hy) (cells_ok hcs).1
    have hput : TInv X D { ((st.kill false r).setR r (.box e (splice (killL false r cells) k (killL false r cs)))) with dirty := st.dirty } ρ a w' g := by
      refine hi.mut hk0 S (by rw [← hw']; exact gok_write hi.inv.ok hf.own _) _ (fun p row hp => ?_) (fun h => by cases h) (fun b' l hl hb' => ⟨hb', ?_⟩) st.dirty hi.dirt
      · cases p with
        | cons q p => simp [RK.rows] at hp
        | nil =>
          simp only [RK.rows, Option.some.injEq] at hp
          subst hp
          rw [← hw']
          refine row_write hf (i := 0) rfl (by simp [q1]; omega) rfl hf.own rfl (fun i' c' hc' => ?_) (fun i' c' k' q hc' hq => ?_)
          · cases i' with
            | zero => cases hc'; rw [encL_map, List.length_map, splice_length _ _ _ (by rw [killL_length, killL_length]; exact hkl), killL_length]; exact hlen
            | succ i' => cases hc'
          · rw [hw']
            cases i' with
            | succ i' => cases hc'
            | zero =>
              cases hc'
              rw [encL_map, splice_map, splice_get _ _ _ (by simp [killL_length]; exact hkl), List.length_map, killL_length] at hq
              have hvl : (a.eval y).cells.toList.length = cs.length := by simpa using q1
              split at hq
              · rename_i hin
                left
                obtain ⟨q0, hq0, _⟩ := killL_get (ρ := ρ) (all := false) (r := r) cs (k' - k) q (by rw [encL_map]; exact hq)
                obtain ⟨u, hu, hr1, _⟩ := q2 (k' - k) q0 hq0
                refine ⟨rfl, hin.1, by omega, u, by simpa using hu, ?_⟩
                exact killL_rep S cs hcok (k' - k) q u (by rw [encL_map]; exact hq) fun q3 hq3 => by rw [hq0] at hq3; cases hq3; exact hr1
              · rename_i hin
                right
                obtain ⟨q0, hq0, _⟩ := killL_get (ρ := ρ) (all := false) (r := r) cells k' q (by rw [encL_map]; exact hq)
                refine ⟨fun h => hin ⟨h.2.1, by omega⟩, ⟨_, q0, rfl, hq0⟩, ?_⟩
                exact killL_rep S cells hrk k' q _ (by rw [encL_map]; exact hq) fun q3 hq3 => hf.rep 0 _ k' q3 rfl hq3
      · rw [← hw']
        refine setRow_other w b b' _ fun e0 => ?_
        subst e0
        rw [hf.own] at hb'; cases hb'; exact hl rfl
    exact hput
theorem pathsOf_length : ∀ (t : Ty) (p : List Bool), (pathsOf p t).length = t.n
  | .int _, _ => rfl
  | .bool, _ => rfl
  | .unit, _ => rfl
  | .pr a b, p => by simp only [pathsOf, List.length_append, pathsOf_length a, pathsOf_length b, Ty.n]
  | .sl _ _, _ => rfl
  | .mp, _ => rfl
theorem old_get (rg : Rg) (n : Nat) {ρ : Env} : ∀ (t : Ty) (p : List Bool) (x : t.den), Ref.get ρ ⟨n, p⟩ = ⟨t, x⟩ → t.flat = true → ∀ (k : Nat) (pth : List Bool) (u : Ty) (q : C), (pathsOf p t)[k]? = some pth → t.leaves[k]? = some u → (enc rg t x)[k]? = some q → enc rg u (mkv u [Ref.get ρ ⟨n, pth⟩]).1 = [q]
  | .int kd, p, x, h, _, k, pth, u, q, h1, h2, h3 => by
    have hk : k = 0 := by have := (List.getElem?_eq_some_iff.1 h1).1; simp [pathsOf] at this; exact this
    subst hk
    simp only [pathsOf, Ty.leaves, enc, List.getElem?_cons_zero, Option.some.injEq] at h1 h2 h3
    subst h1 h2 h3
    rw [h]; rfl
  | .bool, p, x, h, _, k, pth, u, q, h1, h2, h3 => by
    have hk : k = 0 := by have := (List.getElem?_eq_some_iff.1 h1).1; simp [pathsOf] at this; exact this
    subst hk
    simp only [pathsOf, Ty.leaves, enc, List.getElem?_cons_zero, Option.some.injEq] at h1 h2 h3
    subst h1 h2 h3
    rw [h]; rfl
  | .unit, p, x, h, _, k, pth, u, q, h1, h2, h3 => by simp [pathsOf] at h1
  | .pr a b, p, x, h, hf, k, pth, u, q, h1, h2, h3 => by
    simp only [Ty.flat, Bool.and_eq_true] at hf
    have ha : Ref.get ρ ⟨n, p ++ [false]⟩ = ⟨a, x.1⟩ := by simp only [Ref.get, proj_app] at h ⊢; rw [h]; rfl
    have hb : Ref.get ρ ⟨n, p ++ [true]⟩ = ⟨b, x.2⟩ := by simp only [Ref.get, proj_app] at h ⊢; rw [h]; rfl
    simp only [pathsOf, Ty.leaves, enc, List.getElem?_append, pathsOf_length, leaves_length, enc_length] at h1 h2 h3
    split at h1
    · rename_i hk
      rw [if_pos hk] at h2 h3
      exact old_get rg n a _ x.1 ha hf.1 k pth u q h1 h2 h3
    · rename_i hk
      rw [if_neg hk] at h2 h3
      exact old_get rg n b _ x.2 hb hf.2 _ pth u q h1 h2 h3
  | .sl _ _, _, _, _, hf, _, _, _, _, _, _, _ => by simp [Ty.flat] at hf
  | .mp, _, _, _, hf, _, _, _, _, _, _, _ => by simp [Ty.flat] at hf
/-- A value, turned in part. -/
theorem splice_enc (hi : TInv X D st ρ a w g) {b : Ty} {y : b.den} {n k : Nat} {cs : List SC} {xs : List At} {rs : List Nat} {ρ1 : Env} (hf : b.flat = true) (hn : Ref.get (ρ ++ ρ1) ⟨n, []⟩ = ⟨b, y⟩) (hk : k + cs.length ≤ b.n) (ht : st.takeCells none (b.cellTy k cs.length) cs = .ok (xs, rs)) (rg : Rg) :
    enc rg b (mkv b ((splice (oldAtoms n b) k xs).map (At.get (ρ ++ ρ1)))).1 = splice (enc rg b y) k (encL ρ cs) := by
  have hflat := isSl_flat b hf
  have hcl : ∀ (j : Nat) (u : Ty), (b.cellTy k cs.length)[j]? = some u → b.leaves[k + j]? = some u ∧ j < cs.length := fun j u hj => by
    unfold Ty.cellTy at hj
    rw [List.getElem?_take] at hj
    split at hj
    · rw [List.getElem?_drop] at hj; exact ⟨hj, by assumption⟩
    · cases hj
  obtain ⟨h1, h2, h3, h4, h5⟩ := take_flat hi none (b.cellTy k cs.length) cs xs rs (fun j u hj => hflat _ u (hcl j u hj).1) ht
  have hxl : xs.length = cs.length := by omega
  have hol : (oldAtoms n b).length = b.n := by unfold oldAtoms; rw [List.length_map, pathsOf_length]
  refine mk_enc rg b _ _ (by rw [List.length_map, splice_length _ _ _ (by omega)]; exact hol) (by rw [splice_length _ _ _ (by rw [enc_length, encL_map, List.length_map]; exact hk), enc_length]) fun j u v q q1 q2 q3 => ?_
  rw [List.getElem?_map, Option.map_eq_some_iff] at q2
  obtain ⟨x, hx, rfl⟩ := q2
  rw [splice_get _ _ _ (by omega)] at hx
  rw [splice_get _ _ _ (by rw [enc_length, encL_map, List.length_map]; exact hk), encL_map, List.length_map] at q3
  rw [hxl] at hx
  split at hx
  · rename_i hin
    rw [if_pos hin] at q3
    have hlt := h4 x (List.mem_of_getElem? hx)
    rw [At.get_app (by rw [hi.len]; exact hlt)]
    refine h5 (j - k) u x q ?_ hx (by rw [encL_map]; exact q3) rg
    unfold Ty.cellTy
    rw [List.getElem?_take, if_pos (by omega), List.getElem?_drop]
    have : k + (j - k) = j := by omega
    rw [this]; exact q1
  · rename_i hin
    rw [if_neg hin] at q3
    unfold oldAtoms at hx
    rw [List.getElem?_map, Option.map_eq_some_iff] at hx
    obtain ⟨pth, hp, rfl⟩ := hx
    exact old_get rg n b [] y hn hf j pth u q hp q1 q3
theorem store_list (hi : TInv X D st ρ a w g) (hw : st.wf = true) (hk : st.rok = true) {r : Nat} {e : TypeId} {b : Ty} {v : At} {nl : Bool} {i : At} {k : Nat} {cs : List SC} {xs : List At} {rs : List Nat} {vy : SV} {ρ' : Env}
    (hr : st.rk r = .list e b v nl none) (hx : st.val x = .ok (.ad r e i k)) (hy : st.val y = .ok vy) (hcs : st.cells vy = .ok cs) (hlt : cs.length = szOf X.P t) (h0 : 0 < szOf X.P t) (hf : b.flat = true) (hvt : v.ty st.ts = some (.sl e b)) (hil : i.lt st.ts.length = true) (hkl : k + cs.length ≤ b.n) (hbn : b.n = szOf X.P e)
    (ht : st.takeCells none (b.cellTy k cs.length) cs = .ok (xs, rs))
    (hev : evalB Γ [.get v i, .mk b (splice (oldAtoms st.nx b) k xs), .set v i (.r ⟨st.nx + 1, []⟩)] ρ = some ρ') :
    (⟨none, .store t x y, ty, ps, af, gd⟩ : Oper).wp X.P a w (fun a' w' => ∃ g', TInv X D (((((st.bind b).bind b).bind (.sl e b)).kill false r).setR r (.list e b (.r ⟨st.nx + 2, []⟩) nl none)) ρ' a' w' g') (fun _ _ _ => False) := by
  have hrow := row_of hi hr
  obtain ⟨q1, q2⟩ := cells_rep hi hy hcs
  have hvg := V.list_of (At.ty_get hi.typ hvt)
  generalize hxs : (v.get ρ).as (.sl e b) = zs at hrow hvg
  obtain ⟨v1, hv1, hev⟩ := evalB_cons hev
  obtain ⟨v2, hv2, hev⟩ := evalB_cons hev
  obtain ⟨v3, hv3, hev⟩ := evalB_cons hev
  have := evalB_nil hev
  subst this
  simp only [Ex.den1, Ex.den, hvg, Option.bind_eq_some_iff, Option.some.injEq] at hv1
  obtain ⟨z, hz, rfl⟩ := hv1
  obtain ⟨z0, z1, z2⟩ := gget_ok hz
  have hlen := hi.len
  have hnx : st.nx = ρ.length := by rw [hlen]; rfl
  have hg1 : Ref.get (ρ ++ [⟨b, z⟩]) ⟨st.nx, []⟩ = ⟨b, z⟩ := by
    have : (st.ref).get (ρ ++ [⟨b, z⟩]) = ⟨b, z⟩ := ref_get hi.len
    exact this
  have henc := splice_enc hi (ρ1 := [⟨b, z⟩]) hf hg1 hkl ht none
  simp only [Ex.den1, Ex.den, Option.some.injEq] at hv2
  generalize hz2 : (mkv b ((splice (oldAtoms st.nx b) k xs).map (At.get (ρ ++ [⟨b, z⟩])))).1 = zn at hv2 henc
  subst hv2
  have hva : At.get ((ρ ++ [⟨b, z⟩]) ++ [⟨b, zn⟩]) v = ⟨.sl e b, zs⟩ := by
    rw [List.append_assoc, At.get_app (by rw [hi.len]; exact At.ty_lt hvt)]; exact hvg
  have hia : At.get ((ρ ++ [⟨b, z⟩]) ++ [⟨b, zn⟩]) i = i.get ρ := by
    rw [List.append_assoc, At.get_app (by rw [hi.len]; exact hil)]
  have hna : At.get ((ρ ++ [⟨b, z⟩]) ++ [⟨b, zn⟩]) (.r ⟨st.nx + 1, []⟩) = ⟨b, zn⟩ := by
    simp only [At.get, Ref.get, V.proj, hnx]
    simp [List.getD]
  simp only [Ex.den1, Ex.den, hva, hia, hna, V.as_self, Option.some.injEq] at hv3
  subst hv3
  have hi3 : TInv X D (((st.bind b).bind b).bind (.sl e b)) (((ρ ++ [⟨b, z⟩]) ++ [⟨b, zn⟩]) ++ [⟨.sl e b, gset zs (i.get ρ).int zn⟩]) a w g := by
    have := hi.grow hw [⟨b, z⟩, ⟨b, zn⟩, ⟨.sl e b, gset zs (i.get ρ).int zn⟩]
    simpa [St.bind] using this
  obtain ⟨b', base', hd1, hxe⟩ := val_rep hi hx
  generalize hN : (i.get ρ).int.toNat = N at *
  generalize hels : (zs.mapIdx fun i y => encIn none r i b y) = els at hrow
  have hget : els[N]? = some (encE r N 0 b z) := by rw [← hels, List.getElem?_mapIdx, z2]; rfl
  cases hrow with
  | nil => simp at hget
  | zero => simp at hget
  | full _ _ _ _ bb base n cap vs f hrf =>
    have hbb : b' = bb ∧ base' = base := by
      have hd := hrf.hd
      rw [hd] at hd1
      rcases hd1 with ⟨_, _, h1⟩ | h1 <;> simp [hdrOf] at h1
      exact ⟨h1.1.1.symm, h1.1.2.symm⟩
    obtain ⟨rfl, rfl⟩ := hbb
    have hone : ∀ u ∈ (a.eval y).cells.toList, u.oneCell' = true := fun u hu => by
      obtain ⟨j, hj⟩ := List.getElem?_of_mem hu
      have hjl : j < cs.length := by rw [← q1]; have := (List.getElem?_eq_some_iff.1 hj).1; simpa using this
      obtain ⟨u', hu', _, h1⟩ := q2 j _ (List.getElem?_eq_getElem (by rw [encL_map, List.length_map]; exact hjl))
      have : (a.eval y).cells[j]? = some u := by simpa using hj
      rw [this] at hu'; cases hu'; exact h1
    have hoffle : base' + (N * szOf X.P e + k) + szOf X.P t ≤ vs.size := by
      have h1 := hrf.len
      have h2 := hrf.hcap
      have h3 := hrf.fit
      have h4 := (List.getElem?_eq_some_iff.1 hget).1
      have : (N + 1) * szOf X.P e ≤ cap * szOf X.P e := Nat.mul_le_mul_right _ (by omega)
      rw [Nat.add_mul, Nat.one_mul] at this
      omega
    have hrun := run_storeVar (P := X.P) (w := w) (t := t) (v := a.eval y) (b := b') (off := base' + (N * szOf X.P e + k)) (cs := vs) (e := e) h0 (by rw [q1, hlt]) hone hrf.heap hoffle
    have hxe2 : a.eval x = .pointer (some ⟨b', base' + (N * szOf X.P e + k), none⟩) := by rw [hxe]; unfold At.nat; rw [hN]
    unfold Oper.wp
    simp only [execOp, hxe2, Instr.storeAt, Instr.sureAddr, Sem.run_bind, Sem.run_pure, Result.andThen_ok, hrun, Oper.upon]
    have hob := hi.inv.ok.own b' _ hrf.own
    generalize hw' : w.setRow b' (vs.toList.take (base' + (N * szOf X.P e + k)) ++ (a.eval y).cells.toList ++ vs.toList.drop (base' + (N * szOf X.P e + k) + (a.eval y).cells.toList.length)).toArray = w'
    have S : Stab (((st.bind b).bind b).bind (.sl e b)).nr false r w g w' g := stab_write hrf.own hob.2.2 fun b2 hb2 => by rw [← hw']; exact setRow_other w b' b2 _ hb2
    refine ⟨g, ?_⟩
    have hvl : (a.eval y).cells.toList.length = cs.length := by simpa using q1
    have hzl : els.length = zs.length := by rw [← hels]; simp
    have hNl : N < zs.length := by rw [← hzl]; exact (List.getElem?_eq_some_iff.1 hget).1
    have hkn : TInv X D { (((((st.bind b).bind b).bind (.sl e b)).kill false r).setR r (.list e b (.r ⟨st.nx + 2, []⟩) nl none)) with dirty := st.dirty } (((ρ ++ [⟨b, z⟩]) ++ [⟨b, zn⟩]) ++ [⟨.sl e b, gset zs (i.get ρ).int zn⟩]) a w' g := by
      refine hi3.mut (rok_bind (rok_bind (rok_bind hk _) _) _) S (by rw [← hw']; exact gok_write hi.inv.ok hrf.own _) _ (fun p row hp => ?_) (fun h => by cases h) (fun b2 l hl hb2 => ⟨hb2, ?_⟩) st.dirty hi.dirt
      · have hv3 : (At.get (((ρ ++ [⟨b, z⟩]) ++ [⟨b, zn⟩]) ++ [⟨.sl e b, gset zs (i.get ρ).int zn⟩]) (.r ⟨st.nx + 2, []⟩)).as (.sl e b) = gset zs (i.get ρ).int zn := by
          have : At.get (((ρ ++ [⟨b, z⟩]) ++ [⟨b, zn⟩]) ++ [⟨.sl e b, gset zs (i.get ρ).int zn⟩]) (.r ⟨st.nx + 2, []⟩) = ⟨.sl e b, gset zs (i.get ρ).int zn⟩ := by
            simp only [At.get, Ref.get, V.proj, hnx]
            simp [List.getD]
          rw [this]; exact V.as_self _ _
        have hset : gset zs (i.get ρ).int zn = zs.set N zn := by unfold gset; rw [hN]
        cases p with
        | cons q p =>
          obtain ⟨_, rfl, y', _, hs⟩ := rows_cons_list hp
          have : ∀ (t : Ty) (k j : Nat) (x : t.den), t.flat = true → subRow k t x j = none := by
            intro t
            induction t with
            | pr a b iha ihb =>
              intro k j x hf
              simp only [Ty.flat, Bool.and_eq_true] at hf
              simp only [subRow]
              cases Nat.blt j (k + a.n)
              · exact ihb _ _ _ hf.2
              · exact iha _ _ _ hf.1
            | sl e a => intro k j x hf; simp [Ty.flat] at hf
            | _ => intro k j x hf; simp [subRow]
          rw [this _ _ _ _ hf] at hs; cases hs
        | nil =>
          rw [rows_nil_list, hv3, hset] at hp
          simp only [Option.some.injEq] at hp
          subst hp
          rw [← hw']
          have hget' : ∀ (i' : Nat) (c' : List C), ((zs.set N zn).mapIdx fun i y => encIn none r i b y)[i']? = some c' → (i' = N ∧ c' = splice (enc none b z) k (encL ρ cs)) ∨ (i' ≠ N ∧ els[i']? = some c') := fun i' c' hc' => by
            rw [List.getElem?_mapIdx, Option.map_eq_some_iff] at hc'
            obtain ⟨y', hy', rfl⟩ := hc'
            rcases set_get hNl hy' with ⟨rfl, rfl⟩ | ⟨hne, hy'⟩
            · left
              exact ⟨rfl, by simp only [encIn, encE_flat r i' none 0 b _ hf]; exact henc⟩
            · right
              exact ⟨hne, by rw [← hels, List.getElem?_mapIdx, hy']; rfl⟩
          refine row_write hrf hget (by rw [hvl]; omega) rfl hrf.own (by rw [hzl]; simp) (fun i' c' hc' => ?_) (fun i' c' k' q hc' hq => ?_)
          · rcases hget' i' c' hc' with ⟨rfl, rfl⟩ | ⟨_, hc'⟩
            · rw [splice_length _ _ _ (by rw [enc_length, encL_map, List.length_map]; exact hkl), enc_length]; exact hbn
            · exact hrf.size i' c' hc'
          · rw [hw']
            have scal : ∀ (q : C) (u : Value), CRep w g q u → (∃ kd z, q = .int kd z) ∨ (∃ bv, q = .bool bv) → CRep w' g q u := fun q u hq hsc => by
              rcases hsc with ⟨kd, z, rfl⟩ | ⟨bv, rfl⟩
              · cases hq; exact .int _ _
              · cases hq; exact .bool _
            have flatc : ∀ (t : Ty) (x : t.den) (j : Nat) (q : C), t.flat = true → (enc none t x)[j]? = some q → (∃ kd z, q = .int kd z) ∨ (∃ bv, q = .bool bv) := by
              intro t
              induction t with
              | int kd => intro x j q _ hj; have hk : j = 0 := by { have := (List.getElem?_eq_some_iff.1 hj).1; simp [enc] at this; exact this }; subst hk; simp only [enc, List.getElem?_cons_zero, Option.some.injEq] at hj; exact .inl ⟨kd, x, hj.symm⟩
              | bool => intro x j q _ hj; have hk : j = 0 := by { have := (List.getElem?_eq_some_iff.1 hj).1; simp [enc] at this; exact this }; subst hk; simp only [enc, List.getElem?_cons_zero, Option.some.injEq] at hj; exact .inr ⟨x, hj.symm⟩
              | unit => intro x j q _ hj; simp [enc] at hj
              | pr a b iha ihb =>
                intro x j q hf hj
                simp only [Ty.flat, Bool.and_eq_true] at hf
                simp only [enc, List.getElem?_append] at hj
                split at hj
                · exact iha _ _ _ hf.1 hj
                · exact ihb _ _ _ hf.2 hj
              | sl e a => intro x j q hf; simp [Ty.flat] at hf
              | mp => intro x j q hf; simp [Ty.flat] at hf
            rcases hget' i' c' hc' with ⟨rfl, rfl⟩ | ⟨hne, hc'⟩
            · rw [← henc] at hq
              have hsc := flatc b zn k' q hf hq
              rw [henc, splice_get _ _ _ (by rw [enc_length, encL_map, List.length_map]; exact hkl), encL_map, List.length_map] at hq
              split at hq
              · rename_i hin
                left
                obtain ⟨u, hu, hr1, _⟩ := q2 (k' - k) q (by rw [encL_map]; exact hq)
                exact ⟨rfl, hin.1, by omega, u, by simpa using hu, scal q u hr1 hsc⟩
              · rename_i hin
                right
                have hq' : (encE r i' 0 b z)[k']? = some q := by rw [encE_flat r i' none 0 b _ hf]; exact hq
                exact ⟨fun h => hin ⟨h.2.1, by omega⟩, ⟨_, q, hget, hq'⟩, scal q _ (hrf.rep _ _ k' q hget hq') hsc⟩
            · right
              refine ⟨fun h => hne h.1, ⟨c', q, hc', hq⟩, scal q _ (hrf.rep _ _ k' q hc' hq) ?_⟩
              rw [← hels, List.getElem?_mapIdx, Option.map_eq_some_iff] at hc'
              obtain ⟨y', _, rfl⟩ := hc'
              simp only [encIn, encE_flat r i' none 0 b _ hf] at hq
              exact flatc b y' k' q hf hq
      · rw [← hw']
        refine setRow_other w b' b2 _ fun e0 => ?_
        subst e0
        rw [hrf.own] at hb2; cases hb2; exact hl rfl
    exact hkn
theorem store_ok (h : stepStore X.P st t x y = .ok s) : WStep X D Γ false st ⟨none, .store t x y, ty, ps, af, gd⟩ s := by
  unfold stepStore at h
  obtain ⟨vy, hy, h⟩ := ok_bind h
  obtain ⟨cs, hcs, h⟩ := ok_bind h
  by_cases hc : (cs.length = szOf X.P t ∧ 0 < szOf X.P t ∧ st.dirty.isEmpty = true)
  · rw [if_neg (fun hh => hh hc)] at h
    have hb := ok_bind h
    clear h
    obtain ⟨vx, hx, h⟩ := hb
    have hd0 : st.dirty = [] := by simpa using hc.2.2
    have fin : ∀ {ρ' a w s'}, (⟨none, .store t x y, ty, ps, af, gd⟩ : Oper).wp X.P a w (fun a' w' => ∃ g', TInv X D s' ρ' a' w' g') (fun _ _ _ => False) → (⟨none, .store t x y, ty, ps, af, gd⟩ : Oper).wp X.P a w (fun a' w' => (false = true → RelD D w w') ∧ ∃ g', TInv X D s' ρ' a' w' g') (fun _ _ _ => False) := fun hh =>
      Oper.wp_mono (fun a' w' h => ⟨fun e => (by cases e), h⟩) hh
    split at h
    · rename_i r
      split at h
      · rename_i e cells hr
        split at h
        · rename_i hl
          simp only [Except.ok.injEq] at h
          subst h
          intro ρ ρ' a w g hi hw hk he
          have := evalB_nil he
          subst this
          refine fin (store_box hi hk hr 0 hy hcs (by omega) hc.1 hc.2.1 hd0 fun b base hd => ?_)
          have hp := val_rep hi hx
          simp only [SV.enc, SC.enc] at hp
          exact (hd_eq hp).trans hd
        · cases h
      · cases h
    · rename_i r ex i k
      split at h
      · rename_i e cells hr
        split at h
        · rename_i hl
          obtain ⟨hl1, hl2, hl3⟩ := hl
          simp only [Except.ok.injEq] at h
          subst h hl2 hl3
          intro ρ ρ' a w g hi hw hk he
          have := evalB_nil he
          subst this
          refine fin (store_box hi hk hr k hy hcs hl1 hc.1 hc.2.1 hd0 fun b base hd => ?_)
          have hp := val_rep hi hx
          exact ad_box hi (by simpa [SV.enc, At.nat, At.get, V.int] using hp) hd
        · cases h
      · rename_i e b v nl hr
        by_cases hl : (ex = e ∧ b.flat = true ∧ v.ty st.ts = some (.sl e b) ∧ i.lt st.ts.length = true ∧ k + cs.length ≤ b.n ∧ b.n = szOf X.P e)
        · rw [if_neg (fun hh => hh hl)] at h
          have hb := ok_bind h
          clear h
          obtain ⟨⟨xs, rs⟩, ht, h⟩ := hb
          simp only [Except.ok.injEq] at h
          subst h
          obtain ⟨rfl, l2, l3, l4, l5, l6⟩ := hl
          intro ρ ρ' a w g hi hw hk he
          exact fin (store_list (Γ := Γ) hi hw hk hr hx hy hcs hc.1 hc.2.1 l2 l3 l4 l5 l6 ht he)
        · rw [if_pos hl] at h; cases h
      · cases h
    · cases h
  · rw [if_pos hc] at h; cases h
theorem assign_ok {x : Operand} (hN : d < X.N) (h : stepAssign st d x = .ok s) (hns : ∀ r lo hi v, st.val x ≠ .ok (.c (.hs r lo hi v))) : QStep X D Γ st ⟨some d, .assign x, ty, ps, af, gd⟩ s := by
  unfold stepAssign at h
  obtain ⟨v, hv, h⟩ := ok_bind h
  split at h
  · rename_i r lo hi x0
    exact absurd hv (hns r lo hi x0)
  · simp only [Except.ok.injEq] at h
    subst h
    exact q_put rfl hN fun ρ a w g hi => ⟨_, fun _ _ => rfl, val_rep hi hv⟩
end
end Go.Pu
