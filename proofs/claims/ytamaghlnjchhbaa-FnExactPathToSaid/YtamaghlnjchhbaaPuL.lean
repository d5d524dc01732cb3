/-
  Own work. Operations that make new blocks.
-/
import Derived.Test.YtamaghlnjchhbaaPuK
namespace Go.Pu
open Go Go.RowKit
set_option linter.unusedVariables false

section
variable {X : Ctx} {D : Nat → Prop} {Γ : List FE} {st : St} {ρ : Env} {a : Act} {w : World} {g : G}
/-- A step that may change memory. -/
def WStep (X : Ctx) (D : Nat → Prop) (Γ : List FE) (nr : Bool) (st : St) (o : Oper) (s : Step) : Prop :=
  ∀ ρ ρ' a w g, TInv X D st ρ a w g → st.wf = true → st.rok = true → evalB Γ (s.es.map (·.1)) ρ = some ρ' →
    o.wp X.P a w (fun a' w' => (nr = true → RelD D w w') ∧ ∃ g', TInv X D s.st ρ' a' w' g') (fun _ _ _ => False)
theorem zeroC_rep (ρ : Env) (v : Value) : CRep w g ((zeroC v).enc ρ) v := by
  unfold zeroC
  split
  · simp only [SC.enc, At.get, V.c]; exact .int _ _
  · simp only [SC.enc, At.get, V.c]; exact .bool _
  · simp only [SC.enc]; exact .nil
  · simp only [SC.enc]; exact .gone _
theorem zeroSC_spec {P : Program} {e : TypeId} {cs : List SC} (h : zeroSC P e = some cs) : ∃ i z, P.info? e = some i ∧ i.zero = some z ∧ cs = z.cells.toList.map zeroC := by
  unfold zeroSC at h
  cases hi : P.info? e with
  | none => simp [hi] at h
  | some i =>
    cases hz : i.zero with
    | none => simp [hi, hz] at h
    | some z => simp [hi, hz] at h; exact ⟨i, z, rfl, hz, h.symm⟩
/-- The row of a new box. -/
theorem box_row {P : Program} {l : Loc} {g' : G} {e : TypeId} {cells : List C} {vs : Array Value} (hv : g'.hdr l = .pointer (some ⟨w.heap.size, 0, none⟩)) (ho : g'.own w.heap.size = some l) (hs : cells.length = szOf P e) (h0 : 0 < szOf P e) (hl : vs.size = cells.length)
    (hc : ∀ (k : Nat) (q : C), cells[k]? = some q → ∃ u, vs[k]? = some u ∧ CRep (w.alloc (.cells vs e)) g' q u) : RowRep P (w.alloc (.cells vs e)) g' l (.row true false e [cells]) := by
  refine .full _ _ _ _ w.heap.size 0 1 1 vs (fun _ k => vs.getD k undef) ⟨hv, ho, heap_alloc_new w _, rfl, Nat.le_refl _, by simp [maxLen], by omega, h0, fun i c h => ?_, fun i c k x h1 h2 => ?_, fun i c k x h1 h2 => ?_, fun h => by cases h⟩
  · cases i with
    | zero => cases h; exact hs
    | succ i => cases h
  · cases i with
    | zero =>
      cases h1
      obtain ⟨u, hu, _⟩ := hc k x h2
      rw [Nat.zero_mul, Nat.zero_add, Nat.zero_add, Array.getD_eq_getD_getElem?, hu]; rfl
    | succ i => cases h1
  · cases i with
    | zero =>
      cases h1
      obtain ⟨u, hu, hr⟩ := hc k x h2
      rw [Array.getD_eq_getD_getElem?, hu]; exact hr
    | succ i => cases h1
variable {d : Nat} {x y : Operand} {t t' ty : TypeId} {ps : String} {af : Array Edge} {gd : Option (Nat × Bool)} {s : Step} {nr : Bool}
theorem lat_alloc (w : World) (o : Obj) : Lat w (w.alloc o) := (Below.refl _ _).alloc (Nat.le_refl _) o
theorem alloc_ok {e : TypeId} (hN : d < X.N) (h : stepAlloc X.P st d e = .ok s) : WStep X D Γ nr st ⟨some d, .alloc e, ty, ps, af, gd⟩ s := by
  unfold stepAlloc at h
  split at h
  · rename_i cs hz
    split at h
    · rename_i hc
      simp only [Except.ok.injEq] at h
      subst h
      intro ρ ρ' a w g hi hw hk he
      have := evalB_nil he
      subst this
      obtain ⟨i, z, hinfo, hzero, rfl⟩ := zeroSC_spec hz
      have hrun : (execOp a.eval ⟨some d, .alloc e, ty, ps, af, gd⟩).run X.P w = .ok (.value (.pointer (some ⟨w.heap.size, 0, none⟩))) (w.alloc (.cells z.cells e)) := by
        simp [execOp, Instr.alloc, zeroValue, typeInfo, hinfo, hzero, newVar, newRow]
      unfold Oper.wp
      rw [hrun]
      refine ⟨fun _ => .of_lat (lat_alloc _ _), hi.newRoot hk hN _ _ _ fun g' h1 h2 h3 h4 h5 h6 p row hr => ?_⟩
      cases p with
      | cons q p => simp [RK.rows] at hr
      | nil =>
        simp only [RK.rows, Option.some.injEq] at hr
        subst hr
        refine box_row h2 h4 (by rw [encL_map]; simpa using hc.1) hc.2 (by rw [encL_map]; simp) fun k q hq => ?_
        rw [encL_map, List.map_map, List.getElem?_map, Option.map_eq_some_iff] at hq
        obtain ⟨u, hu, rfl⟩ := hq
        exact ⟨u, by simpa using hu, zeroC_rep _ u⟩
    · cases h
  · cases h
theorem ro_one {rg : Rg} {els : List (List C)} {u : Value} (h : CRep w g (.ro rg els) u) : u.oneCell' = true := by cases h <;> rfl
theorem one_cells {u : Value} (h : u.oneCell' = true) : u.cells = #[u] := by cases u <;> first | rfl | cases h
theorem row_one {P : Program} {l : Loc} {row : Row} (h : RowRep P w g l row) : (g.hdr l).oneCell' = true := by
  cases h with
  | nil _ _ hd => rw [hd]; rfl
  | zero _ A hd => rw [hd]; rfl
  | full bx _ _ _ b base n cap cs f hf => rw [hf.hd]; cases bx <;> rfl
  | mp kvs b clk es hd => rw [hd]; rfl
theorem solid_one (hi : TInv X D st ρ a w g) {c : SC} {u : Value} (hs : st.solid c = true) (h : CRep w g (c.enc ρ) u) : u.oneCell' = true := by
  cases c with
  | v x =>
    simp only [St.solid] at hs
    simp only [SC.enc] at h
    split at hs
    · rename_i k hk
      have := V.int_of (At.ty_get hi.typ hk)
      rw [this] at h
      have := crep_int (k := k) h
      rw [this]; rfl
    · rename_i hk
      have := V.bool_of (At.ty_get hi.typ hk)
      rw [this] at h
      have := crep_bool h
      rw [this]; rfl
    · cases hs
  | s rg x => simp only [SC.enc] at h; exact ro_one h
  | nil => simp only [SC.enc] at h; cases h; rfl
  | h r =>
    simp only [SC.enc] at h
    rw [hd_eq h]
    simp only [St.solid] at hs
    cases hr : st.rk r with
    | dead => rw [hr] at hs; cases hs
    | box e cells => exact row_one (hi.inv.row (r, []) (.row true false e [encL ρ cells]) (by simp only [hr, RK.rows]))
    | list e b v nl inner => exact row_one (row_of hi hr)
    | listH e b v nl i k => exact row_one (hi.inv.row (r, []) (.row false nl e (((v.get ρ).as (.sl e b)).mapIdx fun i y => encE r i 0 b y)) (by simp only [hr, RK.rows]))
    | mp v => exact row_one (hi.inv.row (r, []) (.mp ((v.get ρ).as .mp)) (by simp only [hr, RK.rows]))
  | hn r i k x => simp only [SC.enc] at h; exact ro_one (both_r h)
  | hs r lo hi' x => simp only [SC.enc] at h; exact ro_one (both_r h)
  | rp rg cells => simp only [SC.enc] at h; cases h; rfl
  | fn f caps => simp only [SC.enc] at h; cases h; rfl
  | gone => simp [St.solid] at hs
theorem cells_ok {v : SV} {cs : List SC} (h : st.cells v = .ok cs) : svCells v = .ok cs ∧ cs.all st.solid = true := by
  unfold St.cells at h
  obtain ⟨cs', hc, h⟩ := ok_bind h
  split at h
  · rename_i hs
    simp only [Except.ok.injEq] at h
    subst h
    exact ⟨hc, hs⟩
  · cases h
/-- A value's cells, on the machine. -/
theorem cells_rep (hi : TInv X D st ρ a w g) {o : Operand} {v : SV} {cs : List SC} (hv : st.val o = .ok v) (hc : st.cells v = .ok cs) :
    (a.eval o).cells.size = cs.length ∧ ∀ (k : Nat) (q : C), (encL ρ cs)[k]? = some q → ∃ u, (a.eval o).cells[k]? = some u ∧ CRep w g q u ∧ u.oneCell' = true := by
  obtain ⟨h1, h2⟩ := cells_ok hc
  have hp := val_rep hi hv
  have one : ∀ (k : Nat) (q : C) (u : Value), (encL ρ cs)[k]? = some q → CRep w g q u → u.oneCell' = true := fun k q u hq hu => by
    rw [encL_map, List.getElem?_map, Option.map_eq_some_iff] at hq
    obtain ⟨c, hc, rfl⟩ := hq
    exact solid_one hi (List.all_eq_true.1 h2 c (List.mem_of_getElem? hc)) hu
  unfold svCells at h1
  split at h1
  · rename_i c
    simp only [Except.ok.injEq] at h1
    subst h1
    have hp : CRep w g (c.enc ρ) (a.eval o) := hp
    have ho := one 0 (c.enc ρ) _ (by simp [encL]) hp
    rw [one_cells ho]
    refine ⟨rfl, fun k q hq => ?_⟩
    cases k with
    | zero =>
      simp only [encL, List.getElem?_cons_zero, Option.some.injEq] at hq
      subst hq
      exact ⟨_, rfl, hp, ho⟩
    | succ k => simp [encL] at hq
  · rename_i xs
    simp only [Except.ok.injEq] at h1
    subst h1
    obtain ⟨vs, e1, e2, e3⟩ := hp
    rw [e1]
    refine ⟨by show vs.size = _; rw [e2, encL_map, List.length_map], fun k q hq => ?_⟩
    obtain ⟨u, hu, hr⟩ := e3 k q hq
    exact ⟨u, hu, hr, one k q u hq hr⟩
  · cases h1
theorem alloc_keep {pl : Loc → Prop} {pr : Rg → Prop} {g' : G} {w' : World} {q : C} {u : Value} (h : CRep w g q u) (hl : ∀ l, pl l → g'.hdr l = g.hdr l) (hr : ∀ rg, pr rg → ∀ b, g.reg rg b → g'.reg rg b ∧ w'.heap[b]? = w.heap[b]?) (ho : C.Ok pl pr q) : CRep w' g' q u := h.keep hl hr ho
theorem rok_val {o : Operand} {v : SV} (hk : st.rok = true) (hv : st.val o = .ok v) : v.okR (fun r => Nat.blt r st.nr) (fun r => Nat.blt r st.nr) = true := by
  unfold St.rok St.okR at hk
  simp only [Bool.and_eq_true] at hk
  cases o with
  | tmp t =>
    simp only [St.val, Except.ok.injEq] at hv
    subst hv
    exact all_slot hk.1.1 rfl t
  | const c =>
    simp only [St.val] at hv
    unfold constV at hv
    split at hv <;> simp only [Except.ok.injEq, reduceCtorEq] at hv <;> subst hv <;> rfl
  | func f => simp only [St.val, Except.ok.injEq] at hv; subst hv; rfl
  | global n => simp [St.val] at hv
theorem rok_cells {ph pr : Nat → Bool} {v : SV} {cs : List SC} (h : v.okR ph pr = true) (hc : svCells v = .ok cs) : okL ph pr cs = true := by
  unfold svCells at hc
  split at hc
  · simp only [Except.ok.injEq] at hc; subst hc; simp only [okL, Bool.and_true]; exact h
  · simp only [Except.ok.injEq] at hc; subst hc; exact h
  · cases hc
theorem box_ok {e : TypeId} (hN : d < X.N) (h : stepBox X.P st d e x = .ok s) : WStep X D Γ nr st ⟨some d, .box e x, ty, ps, af, gd⟩ s := by
  unfold stepBox at h
  obtain ⟨v, hv, h⟩ := ok_bind h
  obtain ⟨cs, hcs, h⟩ := ok_bind h
  split at h
  · cases h
  · rename_i hc
    have hc := Decidable.of_not_not hc
    simp only [Except.ok.injEq] at h
    subst h
    intro ρ ρ' a w g hi hw hk he
    have := evalB_nil he
    subst this
    obtain ⟨h1, h2⟩ := cells_rep hi hv hcs
    have hrun : (execOp a.eval ⟨some d, .box e x, ty, ps, af, gd⟩).run X.P w = .ok (.value (.pointer (some ⟨w.heap.size, 0, none⟩))) (w.alloc (.cells (a.eval x).cells e)) := by
      simp only [execOp, Instr.box, newVar, newRow, Sem.run_bind, run_newObj_alloc, Sem.run_pure, Result.andThen_ok]
    unfold Oper.wp
    rw [hrun]
    refine ⟨fun _ => .of_lat (lat_alloc _ _), hi.newRoot hk hN _ _ _ fun g' q1 q2 q3 q4 q5 q6 p row hr => ?_⟩
    cases p with
    | cons q p => simp [RK.rows] at hr
    | nil =>
      simp only [RK.rows, Option.some.injEq] at hr
      subst hr
      refine box_row q2 q4 (by rw [encL_map, List.length_map]; exact hc.1) hc.2 (by rw [encL_map, List.length_map]; exact h1) fun k q hq => ?_
      obtain ⟨u, hu, hr, _⟩ := h2 k q hq
      refine ⟨u, hu, hr.keep (pl := plOf fun r => Nat.blt r st.nr) (fun l hl => q5 l (by simpa [plOf] using hl)) q6 ?_⟩
      exact okL_ok cs (rok_cells (rok_val hk hv) (cells_ok hcs).1) k q hq
theorem makeMap_ok {mt : TypeId} (hN : d < X.N) : WStep X D Γ nr st ⟨some d, .makeMap mt none, ty, ps, af, gd⟩ ⟨[], (st.push (.mp (.nil .mp))).put d (.c (.h st.nr))⟩ := by
  intro ρ ρ' a w g hi hw hk he
  have := evalB_nil he
  subst this
  have hrun : (execOp a.eval ⟨some d, .makeMap mt none, ty, ps, af, gd⟩).run X.P w = .ok (.value (.map (some w.heap.size))) (w.alloc (.map #[] 0)) := by
    simp [execOp, Instr.makeMap]
  unfold Oper.wp
  rw [hrun]
  refine ⟨fun _ => .of_lat (lat_alloc _ _), hi.newRoot hk hN _ _ _ fun g' q1 q2 q3 q4 q5 q6 p row hr => ?_⟩
  cases p with
  | cons q p => simp [RK.rows] at hr
  | nil =>
    simp only [RK.rows, Option.some.injEq] at hr
    subst hr
    exact .mp _ w.heap.size 0 #[] q2 q4 (heap_alloc_new w _) rfl

/-! ### make -/
theorem madeCells_get (z : Array Value) (n m : Nat) (hm : m < n) (hz : 0 < z.size) : (madeCells z n)[m]? = z[m % z.size]? := by
  have h1 : m % z.size < z.size := Nat.mod_lt _ hz
  simp [madeCells, hm, h1]
theorem beqL_get : ∀ (cs ds : List SC), beqL cs ds = true → cs.length = ds.length ∧ ∀ (k : Nat) (c d : SC), cs[k]? = some c → ds[k]? = some d → c.beq d = true
  | [], [], _ => ⟨rfl, fun k c d h => by simp at h⟩
  | c :: cs, e :: ds, h => by
    simp only [beqL, Bool.and_eq_true] at h
    obtain ⟨h1, h2⟩ := beqL_get cs ds h.2
    refine ⟨by simp [h1], fun k c' d' q1 q2 => ?_⟩
    cases k with
    | zero => simp at q1 q2; subst q1 q2; exact h.1
    | succ k => exact h2 k c' d' (by simpa using q1) (by simpa using q2)
  | [], _ :: _, h => by simp [beqL] at h
  | _ :: _, [], h => by simp [beqL] at h
theorem zeroC_beq {u : Value} {c : SC} (h : (zeroC u).beq c = true) : (∀ k, c = .v (.int k 0) → u = .int k 0) ∧ (c = .v (.bool false) → u = .bool false) ∧ (c = .nil → u = .slice none 0 0) := by
  unfold zeroC at h
  split at h
  · refine ⟨fun k hk => ?_, fun hk => ?_, fun hk => ?_⟩ <;> subst hk <;> simp [SC.beq] at h
    obtain ⟨rfl, rfl⟩ := h; rfl
  · refine ⟨fun k hk => ?_, fun hk => ?_, fun hk => ?_⟩ <;> subst hk <;> simp [SC.beq] at h
    subst h; rfl
  · refine ⟨fun k hk => ?_, fun hk => ?_, fun hk => ?_⟩ <;> subst hk <;> simp [SC.beq] at h
    rfl
  · refine ⟨fun k hk => ?_, fun hk => ?_, fun hk => ?_⟩ <;> subst hk <;> simp [SC.beq] at h
theorem zeroCells_length : ∀ (t : Ty), (zeroCells t).length = t.n
  | .int _ => rfl
  | .bool => rfl
  | .unit => rfl
  | .pr a b => by simp only [zeroCells, List.length_append, zeroCells_length a, zeroCells_length b, Ty.n]
  | .sl _ _ => rfl
  | .mp => rfl
/-- A zero cell against an element's encoding. -/
theorem zero_enc {r i : Nat} (hn : ∀ k, g.hdr (r, [(i, k)]) = .slice none 0 0) : ∀ (t : Ty) (k0 : Nat) (k : Nat) (c : SC), (zeroCells t)[k]? = some c → ∃ q, (encE r i k0 t t.dflt)[k]? = some q ∧ ∀ u, (zeroC u).beq c = true → CRep w g q u
  | .int kd, k0, k, c, h => by
    have hk : k = 0 := by have := (List.getElem?_eq_some_iff.1 h).1; simp [zeroCells] at this; exact this
    subst hk
    simp only [zeroCells, List.getElem?_cons_zero, Option.some.injEq] at h
    refine ⟨.int kd 0, rfl, fun u hu => ?_⟩
    rw [(zeroC_beq hu).1 kd h.symm]; exact .int _ _
  | .bool, k0, k, c, h => by
    have hk : k = 0 := by have := (List.getElem?_eq_some_iff.1 h).1; simp [zeroCells] at this; exact this
    subst hk
    simp only [zeroCells, List.getElem?_cons_zero, Option.some.injEq] at h
    refine ⟨.bool false, rfl, fun u hu => ?_⟩
    rw [(zeroC_beq hu).2.1 h.symm]; exact .bool _
  | .unit, k0, k, c, h => by simp [zeroCells] at h
  | .pr a b, k0, k, c, h => by
    simp only [zeroCells, List.getElem?_append, zeroCells_length] at h
    simp only [encE, Ty.dflt, List.getElem?_append, encE_length]
    split at h
    · rename_i hk; simp only [hk, if_true]; exact zero_enc hn a k0 k c h
    · rename_i hk; simp only [hk, if_false]; exact zero_enc hn b _ _ c h
  | .sl e a, k0, k, c, h => by
    have hk : k = 0 := by have := (List.getElem?_eq_some_iff.1 h).1; simp [zeroCells] at this; exact this
    subst hk
    simp only [zeroCells, List.getElem?_cons_zero, Option.some.injEq] at h
    refine ⟨.hd (r, [(i, k0)]), rfl, fun u hu => ?_⟩
    rw [(zeroC_beq hu).2.2 h.symm]; exact .hd _ _ (hn k0).symm
  | .mp, k0, k, c, h => by
    have hk : k = 0 := by have := (List.getElem?_eq_some_iff.1 h).1; simp [zeroCells] at this; exact this
    subst hk
    exact ⟨.gone, rfl, fun u _ => .gone u⟩
/-- The row of a new list. -/
theorem list_row {P : Program} {l : Loc} {g' : G} {nl : Bool} {e : TypeId} {els : List (List C)} {cap : Nat} {vs : Array Value} {f : Nat → Nat → Value} (hv : g'.hdr l = .slice (some ⟨w.heap.size, 0, none⟩) els.length cap) (ho : g'.own w.heap.size = some l) (hcap : els.length ≤ cap) (hm : cap ≤ maxLen) (h0 : 0 < szOf P e) (hl : cap * szOf P e = vs.size)
    (hsz : ∀ (i : Nat) (c : List C), els[i]? = some c → c.length = szOf P e) (hnl : nl = true → els ≠ [])
    (hc : ∀ (i : Nat) (c : List C) (k : Nat) (q : C), els[i]? = some c → c[k]? = some q → vs[i * szOf P e + k]? = some (f i k) ∧ CRep (w.alloc (.cells vs e)) g' q (f i k)) : RowRep P (w.alloc (.cells vs e)) g' l (.row false nl e els) :=
  .full _ _ _ _ w.heap.size 0 els.length cap vs f ⟨hv, ho, heap_alloc_new w _, rfl, hcap, hm, by omega, h0, hsz, fun i c k x h1 h2 => by rw [Nat.zero_add]; exact (hc i c k x h1 h2).1, fun i c k x h1 h2 => (hc i c k x h1 h2).2, hnl⟩
theorem dflt_subRow : ∀ (t : Ty) (k0 j : Nat) (row : Row), subRow k0 t t.dflt j = some row → ∃ e, row = .row false false e []
  | .pr a b, k0, j, row, h => by
    simp only [subRow, Ty.dflt] at h
    cases hb : Nat.blt j (k0 + a.n) <;> rw [hb] at h
    · exact dflt_subRow b _ _ _ h
    · exact dflt_subRow a _ _ _ h
  | .sl e a, k0, j, row, h => by
    simp only [subRow, Ty.dflt] at h
    cases hb : Nat.beq j k0 <;> rw [hb] at h
    · cases h
    · cases h; exact ⟨e, rfl⟩
  | .int _, _, _, _, h => by simp [subRow] at h
  | .bool, _, _, _, h => by simp [subRow] at h
  | .unit, _, _, _, h => by simp [subRow] at h
  | .mp, _, _, _, h => by simp [subRow] at h
theorem TInv.bindOne (hi : TInv X D st ρ a w g) (hw : st.wf = true) {v : V} {t : Ty} (ht : v.t = t) : TInv X D (st.bind t) (ρ ++ [v]) a w g := by
  have hg := hi.grow hw [v]
  simp only [List.map_cons, List.map_nil, ht] at hg
  exact hg
theorem rok_bind (hk : st.rok = true) (t : Ty) : (st.bind t).rok = true := hk
theorem make_ok (hN : d < X.N) (h : stepMake X.P st d t x y = .ok s) : WStep X D Γ nr st ⟨some d, .makeSlice t x y, ty, ps, af, gd⟩ s := by
  unfold stepMake at h
  obtain ⟨⟨k, m⟩, hx, h⟩ := ok_bind h
  obtain ⟨⟨k', n⟩, hy, h⟩ := ok_bind h
  obtain ⟨x1, x2⟩ := intOf_ok hx
  obtain ⟨y1, y2⟩ := intOf_ok hy
  simp only at h
  split at h
  · cases h
  · rename_i e he
    split at h
    · cases h
    · rename_i b hb
      by_cases hc : (k = .i64 ∧ k' = .i64 ∧ m = n ∧ b.flat1 = true ∧ b.n = szOf X.P e ∧ 0 < b.n ∧ zeroIs X.P e b = true)
      · rw [if_neg (fun hh => hh hc)] at h
        simp only [Except.ok.injEq] at h
        subst h
        obtain ⟨rfl, rfl, rfl, hf, hn, h0, hz⟩ := hc
        intro ρ ρ' a w g hi hw hk hev
        obtain ⟨v', hv', rfl⟩ := evalB_one hev
        simp only [Ex.den1, Ex.den, gmake, Option.bind_eq_some_iff, Option.some.injEq] at hv'
        obtain ⟨zs, hzs, rfl⟩ := hv'
        split at hzs
        case isFalse => cases hzs
        rename_i hfit
        simp only [Option.some.injEq] at hzs
        obtain ⟨hn0, hfit⟩ := hfit
        simp only [gfit, decide_eq_true_eq] at hfit
        have ex := val_int hi x1 x2
        have ey := val_int hi y1 y2
        unfold zeroIs at hz
        split at hz
        case h_2 => cases hz
        rename_i cs hcs
        obtain ⟨i, z, hinfo, hzero, rfl⟩ := zeroSC_spec hcs
        obtain ⟨hzl, hzb⟩ := beqL_get _ _ hz
        have hisz : i.size = szOf X.P e := by simp [szOf, hinfo]
        have hzsz : z.cells.size = szOf X.P e := by
          have := hzl; rw [zeroCells_length, hn] at this; simpa using this
        have hib : i.bytes = bytesOf X.P e := by simp [bytesOf, hinfo]
        generalize hN' : (m.get ρ).int.toNat = N at *
        have hNi : (m.get ρ).int = (N : Int) := by omega
        rw [hNi] at ex ey
        have hb' : (i.bytes : Int) * (N : Int) ≤ 281474976710656 := by
          have : ((i.bytes * N : Nat) : Int) ≤ 281474976710656 := by rw [hib, Nat.mul_comm]; omega
          rwa [Int.natCast_mul] at this
        have hrun0 := run_make (P := X.P) w t e i z (elem_under he) hinfo hzero .i64 .i64 N N (by omega) (Int.le_refl _) hb' (by omega)
        simp only [Int.toNat_natCast] at hrun0
        have hrun : (execOp a.eval ⟨some d, .makeSlice t x y, ty, ps, af, gd⟩).run X.P w = .ok (.value (.slice (some ⟨w.heap.size, 0, none⟩) N N)) (w.alloc (.cells (madeCells z.cells (N * i.size)) e)) := by
          simp only [execOp, ex, ey, Sem.run_bind, hrun0, Result.andThen_ok, Sem.run_pure]
        unfold Oper.wp
        rw [hrun]
        have hi2 := hi.bindOne hw (v := ⟨.sl e b, zs⟩) rfl
        refine ⟨fun _ => .of_lat (lat_alloc _ _), hi2.newRoot (rok_bind hk _) hN _ _ _ fun g' q1 q2 q3 q4 q5 q6 p row hr => ?_⟩
        have hval : (st.ref.get (ρ ++ [⟨.sl e b, zs⟩])).as (.sl e b) = zs := by rw [ref_get hi.len]; exact V.as_self _ _
        cases p with
        | nil =>
          rw [rows_nil_list, hval] at hr
          simp only [Option.some.injEq] at hr
          subst hr
          have hzl2 : (zs.mapIdx fun i y => encIn none (st.bind (.sl e b)).nr i b y).length = N := by rw [← hzs]; simp
          have hget : ∀ (j : Nat) (c : List C), (zs.mapIdx fun i y => encIn none (st.bind (.sl e b)).nr i b y)[j]? = some c → j < N ∧ c = encE (st.bind (.sl e b)).nr j 0 b b.dflt := fun j c hc => by
            rw [List.getElem?_mapIdx, ← hzs, List.getElem?_replicate] at hc
            split at hc
            · rename_i hj; simp only [Option.map_some, Option.some.injEq] at hc; exact ⟨hj, hc.symm⟩
            · cases hc
          refine list_row (cap := N) (f := fun _ k => z.cells.getD k undef) (by rw [hzl2]; exact q2) q4 (by omega) (by simp only [maxLen]; omega) (by omega) (by rw [size_madeCells, hisz]) (fun j c hc => by obtain ⟨_, rfl⟩ := hget j c hc; rw [encE_length, hn]) (fun h => by cases h) fun j c k q hc hq => ?_
          obtain ⟨hj, rfl⟩ := hget j c hc
          have hkn : k < szOf X.P e := by rw [← hn, ← encE_length (st.bind (.sl e b)).nr j 0 b b.dflt]; exact (List.getElem?_eq_some_iff.1 hq).1
          have hzk : z.cells[k]? = some (z.cells[k]'(by omega)) := Array.getElem?_eq_getElem (by omega)
          have hlt : j * szOf X.P e + k < N * i.size := by
            rw [hisz]
            have : (j + 1) * szOf X.P e ≤ N * szOf X.P e := Nat.mul_le_mul_right _ hj
            rw [Nat.add_mul, Nat.one_mul] at this
            omega
          refine ⟨?_, ?_⟩
          · rw [madeCells_get _ _ _ hlt (by omega), hzsz, Nat.mul_comm, Nat.mul_add_mod, Nat.mod_eq_of_lt hkn, hzk, Array.getD_eq_getD_getElem?, hzk]; rfl
          · have hzc : (zeroCells b)[k]? = some ((zeroCells b)[k]'(by rw [zeroCells_length]; omega)) := List.getElem?_eq_getElem _
            obtain ⟨q', h1, h2⟩ := zero_enc (w := w.alloc (.cells (madeCells z.cells (N * i.size)) e)) (g := g') (r := (st.bind (.sl e b)).nr) (i := j) (fun k => q3 _ (by simp)) b 0 k _ hzc
            rw [hq] at h1
            cases h1
            rw [Array.getD_eq_getD_getElem?, hzk]
            exact h2 _ (hzb k _ _ (by simp [hzk]) hzc)
        | cons q p =>
          obtain ⟨_, rfl, y, hy, hs⟩ := rows_cons_list hr
          rw [hval, ← hzs, List.getElem?_replicate] at hy
          split at hy
          · cases hy
            obtain ⟨e', rfl⟩ := dflt_subRow _ _ _ _ hs
            exact .nil _ _ (q3 _ (by simp))
          · cases hy
      · rw [if_pos hc] at h; cases h
end
end Go.Pu
