/-
  Own work. Calls, the way out.
-/
import Derived.Test.YtamaghlnjchhbaaPuZ
namespace Go.Pu
open Go Go.RowKit
set_option linter.unusedVariables false
set_option linter.unusedSectionVars false

/-! ### Headers only, of the roots that are not read -/
def plOf2 (ph pr : Nat → Bool) (l : Loc) : Prop := ph l.1 = true ∧ (l.2 = [] ∨ pr l.1 = true)
section
variable {ph pr : Nat → Bool} {ρ : Env}
mutual
theorem SC.okR_ok2 : ∀ (c : SC), c.okR ph pr = true → C.Ok (plOf2 ph pr) (prOf pr) (c.enc ρ)
  | .v x, _ => by simp only [SC.enc]; exact vc_ok _
  | .s none x, _ => by simp only [SC.enc]; exact els_ok (fun r h => by cases h) _
  | .s (some r) x, h => by simp only [SC.okR] at h; simp only [SC.enc]; exact els_ok (fun r' h' => by cases h'; exact h) _
  | .nil, _ => by simp only [SC.enc]; exact .nil
  | .h r, h => by simp only [SC.okR] at h; simp only [SC.enc]; exact .hd _ ⟨h, .inl rfl⟩
  | .hn r i k x, h => by
    simp only [SC.okR, Bool.and_eq_true] at h; simp only [SC.enc]
    exact .both _ _ (.hd _ ⟨h.1, .inr h.2⟩) (els_ok (fun r' h' => by cases h'; exact h.2) _)
  | .hs r lo hi x, h => by
    simp only [SC.okR, Bool.and_eq_true] at h; simp only [SC.enc]
    exact .both _ _ (.sub _ _ _ _ ⟨h.1, .inl rfl⟩) (els_ok (fun r' h' => by cases h'; exact h.2) _)
  | .rp rg cells, h => by
    simp only [SC.okR, Bool.and_eq_true] at h; simp only [SC.enc]
    exact .rp _ _ (fun r h' => by subst h'; exact h.1) (okL_ok2 cells h.2)
  | .fn f caps, h => by simp only [SC.okR] at h; simp only [SC.enc]; exact .fn _ _ (okL_ok2 caps h)
  | .gone, _ => by simp only [SC.enc]; exact .gone
theorem okL_ok2 : ∀ (cs : List SC), okL ph pr cs = true → ∀ (k : Nat) (q : C), (encL ρ cs)[k]? = some q → C.Ok (plOf2 ph pr) (prOf pr) q
  | [], _, k, q, hq => by simp [encL] at hq
  | c :: cs, h, 0, q, hq => by
    simp only [okL, Bool.and_eq_true] at h
    simp only [encL, List.getElem?_cons_zero, Option.some.injEq] at hq
    subst hq; exact SC.okR_ok2 c h.1
  | c :: cs, h, k + 1, q, hq => by
    simp only [okL, Bool.and_eq_true] at h
    simp only [encL, List.getElem?_cons_succ] at hq
    exact okL_ok2 cs h.2 k q hq
end
theorem SV.okR_ok2 (v : SV) (h : v.okR ph pr = true) : PV.Ok (plOf2 ph pr) (prOf pr) (v.enc ρ) := by
  cases v with
  | c x => exact SC.okR_ok2 x h
  | agg xs => exact okL_ok2 xs h
  | ad r e i k => exact ⟨h, .inl rfl⟩
  | ra rg cells =>
    simp only [SV.okR, Bool.and_eq_true] at h
    exact ⟨fun r h' => by subst h'; exact h.1, okL_ok2 cells h.2⟩
  | tup rs =>
    simp only [SV.okR, List.all_eq_true] at h
    intro k r hr
    rw [List.getElem?_map, Option.map_eq_some_iff] at hr
    obtain ⟨y, hy, rfl⟩ := hr
    have h1 := okL_ok2 (ρ := ρ) y.2 (h y (List.mem_of_getElem? hy))
    unfold encR
    split
    · exact h1
    · split
      · rename_i c cs hc; exact h1 0 c (by rw [hc]; rfl)
      · exact .gone
  | und => trivial
  | junk => trivial
theorem RK.okR_ok2 {r : Nat} (k : RK) (h : k.okR ph pr = true) (hr : ph r = true ∧ pr r = true) (p : List (Nat × Nat)) (row : Row) (hrow : k.rows ρ r p = some row) : Row.Ok (plOf2 ph pr) (prOf pr) row := by
  cases k with
  | box e cells =>
    cases p with
    | cons q p => simp [RK.rows] at hrow
    | nil =>
      simp only [RK.rows, Option.some.injEq] at hrow
      subst hrow
      intro i cs k q h1 h2
      cases i with
      | zero => cases h1; exact okL_ok2 cells h k q h2
      | succ i => cases h1
  | list e b v nl inner =>
    refine RK.okR_ok (ph := fun _ => false) (pl := plOf2 ph pr) (ρ := ρ) (r := r) _ ?_ (fun p _ => ⟨hr.1, .inr hr.2⟩) (fun l hl => by simp [plOf] at hl) p row hrow
    cases inner with
    | none => rfl
    | some rg => cases rg with
      | none => rfl
      | some r2 => exact h
  | _ => exact RK.okR_ok (ph := fun _ => false) (pl := plOf2 ph pr) (ρ := ρ) (r := r) _ rfl (fun p _ => ⟨hr.1, .inr hr.2⟩) (fun l hl => by simp [plOf] at hl) p row hrow
end

/-! ### Roots struck -/
section
variable {X : Ctx} {D : Nat → Prop} {Γ : List FE} {st : St} {ρ : Env} {a : Act} {w : World} {g : G}
theorem killR_ok (hd : ∀ b, ¬ D b) : ∀ (l : List (Nat × Bool)) (st : St), TInv X D st ρ a w g → TInv X D (killR l st) ρ a w g
  | [], st, h => h
  | (r, io) :: l, st, h => by
    simp only [killR]
    split
    · rename_i hc
      simp only [Bool.and_eq_true, Bool.or_eq_true, Bool.not_eq_true'] at hc
      refine killR_ok hd l _ ?_
      exact h.mut hc.1 (all := !io) (r := r) ⟨fun _ _ _ _ => rfl, fun _ _ _ b hb => ⟨hb, rfl⟩⟩ h.inv.ok .dead (fun p row hp => by rw [rows_dead] at hp; cases hp) (fun e => by
        rcases hc.2 with hc | hc
        · rw [hc] at e; cases e
        · exact hc) (fun b l _ hb => ⟨hb, rfl⟩) st.dirty h.dirt
    · exact killR_ok hd l st h
theorem killR_ts : ∀ (l : List (Nat × Bool)) (st : St), (killR l st).ts = st.ts ∧ (killR l st).fix = st.fix
  | [], st => ⟨rfl, rfl⟩
  | (r, io) :: l, st => by
    simp only [killR]
    split
    · have := killR_ts l ((st.kill (!io) r).setR r .dead); exact ⟨this.1, this.2⟩
    · exact killR_ts l st
end

/-! ### The results' state, at another place and with other roots -/
def SC.im (n : Nat) (f : Nat → Nat) : SC → SC
  | .v (.r q) => .v (.r ⟨n, q.p⟩)
  | .h r => .h (f r)
  | c => c
def RK.im (n : Nat) (f : Nat → Nat) : RK → RK
  | .box e cs => .box e (cs.map (SC.im n f))
  | .list e a (.r q) nl inner => .list e a (.r ⟨n, q.p⟩) nl inner
  | k => k
def imR (n : Nat) (f : Nat → Nat) (x : Bool × List SC) : Bool × List SC := (x.1, x.2.map (SC.im n f))
def SC.plain : SC → Bool
  | .v (.r q) => Nat.beq q.n 0
  | .h _ => true
  | .gone => true
  | _ => false
def RK.plain : RK → Bool
  | .box _ cs => cs.all SC.plain
  | .list _ a (.r q) _ none => Nat.beq q.n 0 && a.flat1
  | .dead => true
  | _ => false
theorem ownCs_im {n r r' : Nat} {f : Nat → Nat} (hf : ∀ j, f (r + j) = r' + j) : ∀ (ls : List (Ty × List Bool)) (k : Nat), ownCs n ls (r' + k) = (ownCs 0 ls (r + k)).map (SC.im n f)
  | [], k => rfl
  | (t, p) :: ls, k => by
    cases t with
    | sl e a => simp only [ownCs, List.map_cons, SC.im, hf]; rw [Nat.add_assoc, Nat.add_assoc, ownCs_im hf ls (k + 1)]
    | _ => simp only [ownCs, List.map_cons, SC.im]; rw [ownCs_im hf ls k]
theorem ownRs_im {n : Nat} {f : Nat → Nat} {nl : Bool} : ∀ (ls : List (Ty × List Bool)), ownRs nl n ls = (ownRs nl 0 ls).map (RK.im n f)
  | [] => rfl
  | (t, p) :: ls => by
    cases t with
    | sl e a => simp only [ownRs, List.map_cons, RK.im]; rw [ownRs_im ls]
    | _ => simp only [ownRs]; exact ownRs_im ls
theorem resCs_im {n m r r' : Nat} {f : Nat → Nat} (hf : ∀ j, f (r + j) = r' + j) : ∀ (rs : List Res) (i k : Nat), resCs n m i (r' + k) rs = (resCs 0 m i (r + k) rs).map (imR n f)
  | [], i, k => rfl
  | .val agg t nl :: rs, i, k => by
    simp only [resCs, List.map_cons, imR]
    rw [ownCs_im hf, Nat.add_assoc, Nat.add_assoc, resCs_im hf rs (i + 1) (k + t.sls)]
  | .ptr e t :: rs, i, k => by
    simp only [resCs, List.map_cons, imR, List.map_nil, SC.im]
    rw [show r + k + t.sls = r + (k + t.sls) from by omega, hf, show r' + k + t.sls + 1 = r' + (k + t.sls + 1) from by omega, show r + (k + t.sls) + 1 = r + (k + t.sls + 1) from by omega, resCs_im hf rs (i + 1) (k + t.sls + 1)]
    simp only [Nat.add_assoc]
theorem resRs_im {n m r r' : Nat} {f : Nat → Nat} (hf : ∀ j, f (r + j) = r' + j) : ∀ (rs : List Res) (i k : Nat), resRs n m i (r' + k) rs = (resRs 0 m i (r + k) rs).map (RK.im n f)
  | [], i, k => rfl
  | .val agg t nl :: rs, i, k => by
    simp only [resRs, List.map_append]
    rw [ownRs_im (f := f), Nat.add_assoc, Nat.add_assoc, resRs_im hf rs (i + 1) (k + t.sls)]
  | .ptr e t :: rs, i, k => by
    simp only [resRs, List.map_append, List.map_cons, RK.im]
    rw [ownRs_im (f := f), ownCs_im hf, show r' + k + t.sls + 1 = r' + (k + t.sls + 1) from by omega, show r + k + t.sls + 1 = r + (k + t.sls + 1) from by omega, resRs_im hf rs (i + 1) (k + t.sls + 1)]
theorem postRs_im {n m : Nat} {f : Nat → Nat} : ∀ (ps : List Par) (i : Nat), postRs n m i ps = (postRs 0 m i ps).map (RK.im n f)
  | [], i => rfl
  | p :: ps, i => by
    cases p with
    | own agg t io =>
      cases io with
      | true => simp only [postRs, List.map_append]; rw [ownRs_im (f := f), postRs_im ps]
      | false => simp only [postRs, List.map_append, List.map_replicate, RK.im]; rw [postRs_im ps]
    | _ => simp only [postRs]; exact postRs_im ps i
theorem ownCs_plain : ∀ (ls : List (Ty × List Bool)) (r : Nat), (ownCs 0 ls r).all SC.plain = true
  | [], _ => rfl
  | (t, p) :: ls, r => by cases t <;> simp only [ownCs, List.all_cons, ownCs_plain ls, Bool.and_true] <;> rfl
theorem leaves_flat2 : ∀ (t : Ty), t.flat2 = true → ∀ u ∈ t.leaves, u.flat2 = true
  | .pr a b, h, u, hu => by
    simp only [Ty.flat2, Bool.and_eq_true] at h
    simp only [Ty.leaves, List.mem_append] at hu
    rcases hu with hu | hu
    · exact leaves_flat2 a h.1 u hu
    · exact leaves_flat2 b h.2 u hu
  | .int k, h, u, hu => by simp only [Ty.leaves, List.mem_singleton] at hu; subst hu; exact h
  | .bool, h, u, hu => by simp only [Ty.leaves, List.mem_singleton] at hu; subst hu; exact h
  | .unit, h, u, hu => by simp [Ty.leaves] at hu
  | .sl e a, h, u, hu => by simp only [Ty.leaves, List.mem_singleton] at hu; subst hu; exact h
  | .mp, h, u, hu => by simp only [Ty.leaves, List.mem_singleton] at hu; subst hu; exact h
theorem ownRs_plain {nl : Bool} : ∀ (ls : List (Ty × List Bool)), (∀ x ∈ ls, x.1.flat2 = true) → (ownRs nl 0 ls).all RK.plain = true
  | [], _ => rfl
  | (t, p) :: ls, h => by
    have ih := ownRs_plain (nl := nl) ls (fun x hx => h x (List.mem_cons_of_mem _ hx))
    have h0 := h (t, p) List.mem_cons_self
    cases t with
    | sl e a =>
      simp only [ownRs, List.all_cons, ih, Bool.and_true]
      simp only [Ty.flat2] at h0
      simp [RK.plain, h0]
    | _ => simp only [ownRs]; exact ih
theorem lp_flat2 {t : Ty} {p : List Bool} (h : t.flat2 = true) : ∀ x ∈ t.lp p, x.1.flat2 = true := fun x hx => by
  have : x.1 ∈ (t.lp p).map (·.1) := List.mem_map_of_mem hx
  rw [lp_fst] at this
  exact leaves_flat2 t h _ this
theorem resRs_plain {m : Nat} : ∀ (rs : List Res) (i r : Nat), rs.all (fun r => r.ty.flat2) = true → (resRs 0 m i r rs).all RK.plain = true
  | [], _, _, _ => rfl
  | .val agg t nl :: rs, i, r, h => by
    simp only [List.all_cons, Bool.and_eq_true, Res.ty] at h
    simp only [resRs, List.all_append, Bool.and_eq_true]
    exact ⟨ownRs_plain _ (lp_flat2 h.1), resRs_plain rs _ _ h.2⟩
  | .ptr e t :: rs, i, r, h => by
    simp only [List.all_cons, Bool.and_eq_true, Res.ty] at h
    simp only [resRs, List.all_append, List.all_cons, Bool.and_eq_true]
    exact ⟨ownRs_plain _ (lp_flat2 h.1), ownCs_plain _ _, resRs_plain rs _ _ h.2⟩
theorem postRs_plain {m : Nat} : ∀ (ps : List Par) (i : Nat), (ps.flatMap Par.io).all Ty.flat2 = true → (postRs 0 m i ps).all RK.plain = true
  | [], _, _ => rfl
  | p :: ps, i, h => by
    simp only [List.flatMap_cons, List.all_append, Bool.and_eq_true] at h
    cases p with
    | own agg t io =>
      cases io with
      | true =>
        simp only [postRs, List.all_append, Bool.and_eq_true]
        refine ⟨ownRs_plain _ fun x hx => ?_, postRs_plain ps _ h.2⟩
        obtain ⟨y, hy, rfl⟩ := List.mem_map.1 hx
        have := List.fst_mem_of_mem_zipIdx hy
        exact List.all_eq_true.1 h.1 _ this
      | false =>
        simp only [postRs, List.all_append, Bool.and_eq_true]
        refine ⟨List.all_eq_true.2 fun k hk => ?_, postRs_plain ps _ h.2⟩
        rw [List.mem_replicate] at hk
        rw [hk.2]; rfl
    | _ => simp only [postRs]; exact postRs_plain ps i h.2
theorem resCs_plain {m : Nat} : ∀ (rs : List Res) (i r : Nat), ∀ x ∈ resCs 0 m i r rs, x.2.all SC.plain = true
  | [], _, _, x, h => by simp [resCs] at h
  | .val agg t nl :: rs, i, r, x, h => by
    simp only [resCs, List.mem_cons] at h
    rcases h with rfl | h
    · exact ownCs_plain _ _
    · exact resCs_plain rs _ _ x h
  | .ptr e t :: rs, i, r, x, h => by
    simp only [resCs, List.mem_cons] at h
    rcases h with rfl | h
    · rfl
    · exact resCs_plain rs _ _ x h
section
variable {ρ : Env} {v : V} {f : Nat → Nat} {w : World} {g' gF : G}
def mlF (f : Nat → Nat) (l l' : Loc) : Prop := l'.1 = f l.1 ∧ l.2 = l'.2
theorem get_end (p : List Bool) : At.get (ρ ++ [v]) (.r ⟨ρ.length, p⟩) = At.get [v] (.r ⟨0, p⟩) := by simp [At.get, Ref.get, List.getD]
theorem im_rel {c : SC} (h : c.plain = true) : C.Rel (mlF f) (fun _ _ => False) (c.enc [v]) ((c.im ρ.length f).enc (ρ ++ [v])) := by
  unfold SC.plain at h
  split at h
  · rename_i q
    have hq := Nat.eq_of_beq_eq_true h
    obtain ⟨n, p⟩ := q
    simp only at hq
    subst hq
    simp only [SC.im, SC.enc, get_end]
    exact vc_rel _
  · simp only [SC.im, SC.enc]; exact .hd _ _ ⟨rfl, rfl⟩
  · simp only [SC.im, SC.enc]; exact .gone _
  · cases h
theorem imL_rel : ∀ (cs : List SC), cs.all SC.plain = true → ∀ (k : Nat) (x x' : C), (encL [v] cs)[k]? = some x → (encL (ρ ++ [v]) (cs.map (SC.im ρ.length f)))[k]? = some x' → C.Rel (mlF f) (fun _ _ => False) x x'
  | [], _, k, x, x', h, _ => by simp [encL] at h
  | c :: cs, hp, k, x, x', h, h' => by
    simp only [List.all_cons, Bool.and_eq_true] at hp
    cases k with
    | zero =>
      simp only [List.map_cons, encL, List.getElem?_cons_zero, Option.some.injEq] at h h'
      subst h h'
      exact im_rel hp.1
    | succ k =>
      simp only [List.map_cons, encL, List.getElem?_cons_succ] at h h'
      exact imL_rel cs hp.2 k x x' h h'
variable (hF : ∀ l l', mlF f l l' → gF.hdr l' = g'.hdr l)
include hF
theorem imAgg {cs : List SC} (hp : cs.all SC.plain = true) {u : Value} (h : AggRep w g' (encL [v] cs) u) : AggRep w gF (encL (ρ ++ [v]) (cs.map (SC.im ρ.length f))) u := by
  obtain ⟨vs, e1, e2, e3⟩ := h
  refine ⟨vs, e1, by rw [e2, encL_map, encL_map]; simp, fun k q hq => ?_⟩
  obtain ⟨q0, hq0⟩ := get_other (l := encL [v] cs) (by rw [encL_map, encL_map]; simp) hq
  obtain ⟨u, hu, hr⟩ := e3 k q0 hq0
  exact ⟨u, hu, hr.rel hF (fun _ _ h => h.elim) (imL_rel cs hp k q0 q hq0 hq)⟩
theorem resSV_im {P : Program} {l : List (Bool × List SC)} (hp : ∀ x ∈ l, x.2.all SC.plain = true) {u : Value} (h : PRep P w g' ((resSV l).enc [v]) u) : PRep P w gF ((resSV (l.map (imR ρ.length f))).enc (ρ ++ [v])) u := by
  have tup : PRep P w g' ((SV.tup l).enc [v]) u → PRep P w gF ((SV.tup (l.map (imR ρ.length f))).enc (ρ ++ [v])) u := fun h => by
    obtain ⟨vs, e1, e2, e3⟩ := h
    refine ⟨vs, e1, by rw [e2]; simp, fun k q hq => ?_⟩
    rw [List.getElem?_map, List.getElem?_map, Option.map_map, Option.map_eq_some_iff] at hq
    obtain ⟨y, hy, rfl⟩ := hq
    obtain ⟨z, hz, hr⟩ := e3 k (encR [v] y) (by rw [List.getElem?_map, hy]; rfl)
    refine ⟨z, hz, ?_⟩
    have hpy := hp y (List.mem_of_getElem? hy)
    obtain ⟨y1, y2⟩ := y
    unfold encR at hr ⊢
    simp only [Function.comp, imR] at hpy hr ⊢
    cases y1 with
    | true => exact imAgg hF hpy hr
    | false =>
      simp only [Bool.false_eq_true, if_false] at hr ⊢
      cases y2 with
      | nil => simp only [List.map_nil, encL] at hr ⊢; exact .gone z
      | cons c cs =>
        simp only [List.map_cons, encL] at hr ⊢
        simp only [List.all_cons, Bool.and_eq_true] at hpy
        exact CRep.rel hr hF (fun _ _ h => h.elim) (im_rel hpy.1)
  match l, hp, h, tup with
  | [], _, h, tup => exact tup h
  | [(false, [])], _, h, tup => exact tup h
  | [(false, [c])], hp, h, _ =>
    have := hp _ List.mem_cons_self
    simp only [List.all_cons, List.all_nil, Bool.and_true] at this
    exact CRep.rel h hF (fun _ _ h => h.elim) (im_rel this)
  | [(false, c :: c2 :: cs)], _, h, tup => exact tup h
  | [(true, cs)], hp, h, _ => exact imAgg hF (hp _ List.mem_cons_self) h
  | (b, cs) :: y :: ys, _, h, tup =>
    have e1 : resSV ((b, cs) :: y :: ys) = .tup ((b, cs) :: y :: ys) := by cases b <;> rcases cs with _ | ⟨c, _ | ⟨c2, cs⟩⟩ <;> rfl
    have e2 : resSV (((b, cs) :: y :: ys).map (imR ρ.length f)) = .tup (((b, cs) :: y :: ys).map (imR ρ.length f)) := by cases b <;> rcases cs with _ | ⟨c, _ | ⟨c2, cs⟩⟩ <;> rfl
    rw [e1] at h
    rw [e2]
    exact tup h
theorem im_rows {P : Program} {j : Nat} {k : RK} (hp : k.plain = true) (hrow : ∀ p row, k.rows [v] j p = some row → RowRep P w g' (j, p) row) (hown : ∀ b p, g'.own b = some (j, p) → gF.own b = some (f j, p)) {p : List (Nat × Nat)} {row : Row}
    (h : (k.im ρ.length f).rows (ρ ++ [v]) (f j) p = some row) : RowRep P w gF (f j, p) row := by
  have fin : ∀ row0, k.rows [v] j p = some row0 → Row.Rel (mlF f) (fun _ _ => False) row0 row → RowRep P w gF (f j, p) row := fun row0 h0 hrel =>
    (hrow p row0 h0).rel hF (fun _ _ h => h.elim) (hF _ _ ⟨rfl, rfl⟩) (fun b hb => ⟨hown b p hb, rfl⟩) hrel
  unfold RK.plain at hp
  split at hp
  · rename_i e cs
    cases p with
    | cons q p => simp [RK.im, RK.rows] at h
    | nil =>
      simp only [RK.im, RK.rows, Option.some.injEq] at h
      subst h
      refine fin _ rfl (.row _ _ _ _ _ _ (fun h => h) rfl (fun i c c' q1 q2 => ?_) (fun i c c' k x x' q1 q2 q3 q4 => ?_))
      · cases i with
        | zero => cases q1; cases q2; rw [encL_map, encL_map]; simp
        | succ i => cases q1
      · cases i with
        | zero => cases q1; cases q2; exact imL_rel cs hp k x x' q3 q4
        | succ i => cases q1
  · rename_i e a q nl
    simp only [Bool.and_eq_true] at hp
    have hq := Nat.eq_of_beq_eq_true hp.1
    obtain ⟨n, pth⟩ := q
    simp only at hq
    subst hq
    simp only [RK.im] at h
    obtain ⟨row0, h0, hrel⟩ := list_rel (ml := mlF f) (mr := fun _ _ => False) (r := j) (r' := f j) (x := .r ⟨0, pth⟩) (x' := .r ⟨ρ.length, pth⟩) (ρ := [v]) (ρ' := ρ ++ [v]) (nl := nl) (by rw [get_end (ρ := ρ)]) (fun h => h) (fun p _ => ⟨rfl, rfl⟩) (.inl hp.2) h
    exact fin row0 h0 hrel
  · simp only [RK.im, rows_dead] at h; cases h
  · cases hp
end
end Go.Pu
