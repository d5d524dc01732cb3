/-
  Own work. The rules of the frame logic: operations that read memory, and addresses.
-/
import Derived.Test.YtphdildkhaeimaaEvC
namespace Go.Ev
open Go Go.RowKit

theorem addr_add (b off j : Nat) : (⟨b, off, none⟩ : Addr).add j = ⟨b, off + j, none⟩ := by
  unfold Addr.add
  split
  · rename_i h; subst h; rfl
  · rfl

def tyOf (P : Program) (t : TypeId) : Option (Bool × Nat) := match P.underlying t with
  | some (.struct _) | some (.array _ _) => some (true, szOf P t)
  | some _ => some (false, szOf P t)
  | none => none
def tyOne (P : Program) (t : TypeId) : Bool := match tyOf P t with
  | some (false, _) => true
  | _ => false
def isSl (P : Program) (t : TypeId) : Bool := match P.underlying t with
  | some (.slice _) => true
  | _ => false
def fldOf (P : Program) (t : TypeId) (fi : Nat) : Option (Nat × Nat) := match P.underlying t with
  | some (.struct fs) => match fs[fi]? with
    | some f => some (f.offset, szOf P f.type)
    | none => none
  | _ => none
def elemOf' (P : Program) (t : TypeId) : Option TypeId := match P.underlying t with
  | some (.slice e) => some e
  | _ => none

def elSz (P : Program) (t : TypeId) : Option Nat := match P.underlying t with
  | some (.slice e) => some (szOf P e)
  | _ => none
theorem elSz_spec {P : Program} {t : TypeId} {n : Nat} (h : elSz P t = some n) : ∃ e, elemOf' P t = some e ∧ szOf P e = n := by
  unfold elSz at h
  unfold elemOf'
  cases hu : P.underlying t with
  | none => simp [hu] at h
  | some d => cases d <;> simp [hu] at h; exact ⟨_, rfl, h⟩

section
variable {P : Program} {w : World}
theorem elem_under {t e : TypeId} (h : elemOf' P t = some e) : P.underlying t = some (.slice e) := by
  unfold elemOf' at h
  cases hu : P.underlying t with
  | none => simp [hu] at h
  | some d => cases d <;> simp [hu] at h; rw [h]
theorem info_of_sz {t : TypeId} {n : Nat} (h : szOf P t = n + 1) : ∃ i, P.info? t = some i ∧ i.size = n + 1 := by
  unfold szOf at h
  cases hi : P.info? t with
  | none => simp [hi] at h
  | some i => rw [hi] at h; exact ⟨i, rfl, h⟩
theorem run_sizeOf {t : TypeId} {n : Nat} (h : szOf P t = n + 1) : (sizeOf t).run P w = .ok (n + 1) w := by
  obtain ⟨i, hi, hs⟩ := info_of_sz h
  simp [sizeOf, typeInfo, hi, hs]
theorem run_load_one {t : TypeId} (h0 : tyOne P t = true) {a : Addr} {v : Value} (hc : w.cell? a = some v) : (loadVar t a).run P w = .ok v w := by
  obtain ⟨n, h⟩ : ∃ n, tyOf P t = some (false, n) := by
    unfold tyOne at h0
    cases ht : tyOf P t with
    | none => simp [ht] at h0
    | some x => obtain ⟨b, n⟩ := x; cases b <;> simp [ht] at h0; exact ⟨n, rfl⟩
  unfold tyOf at h
  cases hu : P.underlying t with
  | none => simp [hu] at h
  | some d =>
    have : (isAgg t).run P w = .ok false w := by
      cases d <;> simp [hu] at h <;> simp [isAgg, run_underlying hu]
    simp [loadVar, this, run_load, hc]
theorem run_load_agg {t : TypeId} {cs : List Value} (h : tyOf P t = some (true, cs.length)) (hne : cs ≠ []) {a : Addr} (hc : ∀ (j : Nat) (v : Value), cs[j]? = some v → w.cell? (a.add j) = some v) :
    (loadVar t a).run P w = .ok (.agg cs.toArray) w := by
  unfold tyOf at h
  cases hu : P.underlying t with
  | none => simp [hu] at h
  | some d =>
    have hag : (isAgg t).run P w = .ok true w := by
      cases d <;> simp [hu] at h <;> simp [isAgg, run_underlying hu]
    have hsz : szOf P t = cs.length := by cases d <;> simp [hu] at h <;> exact h
    obtain ⟨m, hm⟩ : ∃ m, cs.length = m + 1 := ⟨cs.length - 1, by have := List.length_pos_iff.2 hne; omega⟩
    have hs : (sizeOf t).run P w = .ok cs.length w := by rw [hm]; exact run_sizeOf (by omega)
    have hl := run_loadCells_list (P := P) w a cs hc
    simp [loadVar, hag, hs, hl]
theorem run_fieldAt {t : TypeId} {fi off n : Nat} (h : fldOf P t fi = some (off, n + 1)) (a : Addr) : (Instr.fieldAt t (.pointer (some a)) fi).run P w = .ok (.pointer (some (a.add off))) w := by
  unfold fldOf at h
  cases hu : P.underlying t with
  | none => simp [hu] at h
  | some d =>
    cases d <;> simp [hu] at h
    rename_i fs
    cases hf : fs[fi]? with
    | none => simp [hf] at h
    | some f =>
      simp only [hf, Option.some.injEq, Prod.mk.injEq] at h
      have hs := run_sizeOf (P := P) (w := w) h.2
      simp [Instr.fieldAt, run_underlying hu, hf, Instr.sureAddr, fieldPlace, hs, h.1]
theorem run_indexAt {t e : TypeId} {n : Nat} (h : elemOf' P t = some e) (hs : szOf P e = n + 1) (a : Addr) (len cap : Nat) (z : Int) (h0 : 0 ≤ z) (h1 : z.toNat < len) :
    (Instr.indexAt t (.slice (some a) len cap) (.int .i64 z)).run P w = .ok (.pointer (some (a.add (z.toNat * (n + 1))))) w := by
  have hu := elem_under h
  have hlt : z < (len : Int) := by omega
  simp [Instr.indexAt, asIntOf, run_underlying hu, h0, hlt, run_sizeOf hs]
end

section
variable {X : Ctx} {fr : Frame} {a : Act} {w : World} {g : G}

/-- The row behind an owned tree, opened. -/
theorem own_row (hi : InvG X fr a w g) {s : Nat} {bx : Bool} {e : TypeId} {els : List (List T)} (hf : fr s = .t (.own bx e els)) (hne : els ≠ []) :
    ∃ (b base n cap : Nat) (cs : Array Value) (f : Nat → Nat → Value), g.hdr (s, []) = (if bx then .pointer (some ⟨b, base, none⟩) else .slice (some ⟨b, base, none⟩) n cap) ∧
      a.tmps.getD s undef = g.hdr (s, []) ∧ g.own b = some (s, []) ∧ w.heap[b]? = some (.cells cs e (0, 0)) ∧ n = els.length ∧ n ≤ cap ∧ cap ≤ maxLen ∧ base + cap * szOf X.P e = cs.size ∧ 0 < szOf X.P e ∧
      (∀ (i : Nat) (c : List T), els[i]? = some c → c.length = szOf X.P e) ∧
      (∀ (i : Nat) (c : List T) (k : Nat) (x : T), els[i]? = some c → c[k]? = some x → cs[base + (i * szOf X.P e + k)]? = some (f i k)) ∧
      (∀ (i : Nat) (c : List T) (k : Nat) (x : T), els[i]? = some c → c[k]? = some x → Rep X.P w g (s, [(i, k)]) x (f i k)) := by
  have hs := hi.slot s
  rw [hf] at hs
  generalize hv : a.tmps.getD s undef = v at hs
  cases hs with
  | im _ _ _ h => cases h
  | own0 => exact absurd rfl hne
  | own _ _ _ _ b base n cap cs f _ hv' hd ho hh hn hc hm hcs hsz0 hsz hcell hrep =>
    exact ⟨b, base, n, cap, cs, f, hd.trans hv', hd.symm, ho, hh, hn, hc, hm, hcs, hsz0, hsz, hcell, hrep⟩
theorem hdrAt_own {v : Value} {bx : Bool} {b base b' base' n cap : Nat} (h : hdrAt v b base) (hv : v = if bx then .pointer (some ⟨b', base', none⟩) else .slice (some ⟨b', base', none⟩) n cap) : b = b' ∧ base = base' := by
  subst hv
  rcases h with ⟨n', cap', h⟩ | h <;> cases bx <;> simp at h <;> omega
theorem ne_of_get {α : Type} {l : List α} {i : Nat} {x : α} (h : l[i]? = some x) : l ≠ [] := by
  rintro rfl; simp at h
end

section
variable {X : Ctx} {ops : Array Oper} {rest : List (Oper × Bool)} {fr : Frame} {K : Frame → Prop} {nr : Bool}
variable {d : Nat} {x y : Operand} {t t' ty : TypeId} {ps : String} {af : Array Edge} {gd : Option (Nat × Bool)}

theorem lat_of_cls {o : Oper} {w w' : World} (hr : reads o.op = true) (h : Cls o w w') : Lat w w' := h hr

/-- A load of one cell out of an owned row or box. -/
theorem EvO.loadOwn {e : TypeId} {s i k : Nat} {bx : Bool} {els : List (List T)} {c : List T} {q : T} (hx : val fr x = .addr e s [] i k) (hf : fr s = .t (.own bx e els)) (hi : els[i]? = some c) (hk : c[k]? = some q)
    (him : q.imm = true) (ht : tyOne X.P t = true) (hN : Nat.blt d X.N = true) (hw : wantF ops fr gd = some true)
    (h : EvO X ops rest (upd fr d (.t q)) K) : EvO X ops ((⟨some d, .load t x, ty, ps, af, gd⟩, nr) :: rest) fr K :=
  EvO.q _ rfl rfl hN hw (fun a w g hinv => by
    have hp := inv_val hinv 0 x
    rw [hx] at hp
    obtain ⟨b, base, hd, hv⟩ := hp
    obtain ⟨b', base', n', cap, cs, f, h1, _, _, h4, _, _, _, _, _, _, h5, h6⟩ := own_row hinv hf (ne_of_get hi)
    obtain ⟨rfl, rfl⟩ := hdrAt_own hd h1
    have hc := h5 i c k q hi hk
    have hcell : w.cell? ⟨b, base + (i * szOf X.P e + k), none⟩ = some (f i k) := by rw [cell_of_row w b _ cs e (0, 0) h4]; exact hc
    refine ⟨f i k, fun w' hw' => ?_, .im _ _ _ ((h6 i c k q hi hk).im' him)⟩
    have hL := lat_of_cls rfl hw'
    simp only [execOp, hv, Instr.loadAt, Instr.sureAddr, Sem.run_bind, Sem.run_pure, Result.andThen_ok, run_load_one ht (hL.cell hcell)]) h
/-- A load of one cell at the head of a box, by the box's own pointer. -/
theorem EvO.loadBox {e : TypeId} {s : Nat} {c : List T} {q : T} (hx : val fr x = .al s []) (hf : fr s = .t (.own true e [c])) (hk : c[0]? = some q)
    (him : q.imm = true) (ht : tyOne X.P t = true) (hN : Nat.blt d X.N = true) (hw : wantF ops fr gd = some true)
    (h : EvO X ops rest (upd fr d (.t q)) K) : EvO X ops ((⟨some d, .load t x, ty, ps, af, gd⟩, nr) :: rest) fr K :=
  EvO.q _ rfl rfl hN hw (fun a w g hinv => by
    have hp := inv_val hinv 0 x
    rw [hx] at hp
    have hp : a.eval x = g.hdr (s, []) := hp
    obtain ⟨b, base, n', cap, cs, f, h1, _, _, h4, _, _, _, _, _, _, h5, h6⟩ := own_row hinv hf (by simp)
    have hc := h5 0 c 0 q rfl hk
    simp only [Nat.zero_mul, Nat.add_zero] at hc
    have hcell : w.cell? ⟨b, base, none⟩ = some (f 0 0) := by rw [cell_of_row w b _ cs e (0, 0) h4]; exact hc
    refine ⟨f 0 0, fun w' hw' => ?_, .im _ _ _ ((h6 0 c 0 q rfl hk).im' him)⟩
    have hL := lat_of_cls rfl hw'
    simp only [execOp, hp, h1, if_true, Instr.loadAt, Instr.sureAddr, Sem.run_bind, Sem.run_pure, Result.andThen_ok, run_load_one ht (hL.cell hcell)]) h

theorem list_of_fun {n : Nat} (f : Nat → Value) (j : Nat) (v : Value) (h : ((List.range n).map f)[j]? = some v) : j < n ∧ v = f j := by
  simp only [List.getElem?_map, Option.map_eq_some_iff] at h
  obtain ⟨a, ha, rfl⟩ := h
  rw [List.getElem?_eq_some_iff] at ha
  obtain ⟨h1, h2⟩ := ha
  simp at h1 h2
  exact ⟨h1, by rw [h2]⟩

/-- The whole box, a struct. -/
theorem EvO.loadBoxAgg {e : TypeId} {s : Nat} {c : List T} (hx : val fr x = .al s []) (hf : fr s = .t (.own true e [c])) (him : c.all T.imm = true)
    (ht : tyOf X.P t = some (true, c.length)) (hne0 : c.isEmpty = false) (hN : Nat.blt d X.N = true) (hw : wantF ops fr gd = some true)
    (h : EvO X ops rest (upd fr d (.agg c)) K) : EvO X ops ((⟨some d, .load t x, ty, ps, af, gd⟩, nr) :: rest) fr K :=
  EvO.q _ rfl rfl hN hw (fun a w g hinv => by
    have hne : c ≠ [] := by intro e0; rw [e0] at hne0; cases hne0
    have hp := inv_val hinv 0 x
    rw [hx] at hp
    have hp : a.eval x = g.hdr (s, []) := hp
    obtain ⟨b, base, n', cap, cs, f, h1, _, _, h4, _, _, _, _, _, _, h5, h6⟩ := own_row hinv hf (by simp)
    let vs := (List.range c.length).map (f 0)
    have hlen : vs.length = c.length := by simp [vs]
    have hcell : ∀ (j : Nat) (v : Value), vs[j]? = some v → w.cell? ((⟨b, base, none⟩ : Addr).add j) = some v := fun j v hj => by
      obtain ⟨hj1, rfl⟩ := list_of_fun (f 0) j v hj
      have hc := h5 0 c j _ rfl (List.getElem?_eq_getElem hj1)
      simp only [Nat.zero_mul, Nat.zero_add] at hc
      rw [addr_add, cell_of_row w b _ cs e (0, 0) h4]; exact hc
    refine ⟨.agg vs.toArray, fun w' hw' => ?_, vs.toArray, rfl, by simp [vs], fun k q hq => ?_⟩
    · have hL := lat_of_cls rfl hw'
      have hr := run_load_agg (P := X.P) (w := w') (t := t) (cs := vs) (by rw [hlen]; exact ht) (by intro e0; rw [e0] at hlen; exact hne (List.eq_nil_of_length_eq_zero hlen.symm)) (a := ⟨b, base, none⟩) (fun j v hj => hL.cell (hcell j v hj))
      simp only [execOp, hp, h1, if_true, Instr.loadAt, Instr.sureAddr, Sem.run_bind, Sem.run_pure, Result.andThen_ok, hr]
    · have hk : k < c.length := (List.getElem?_eq_some_iff.1 hq).1
      exact ⟨f 0 k, by simp [vs, hk], .im _ _ _ ((h6 0 c k q rfl hq).im' (List.all_eq_true.1 him q (List.mem_of_getElem? hq)))⟩) h
/-- A struct out of an owned row. -/
theorem EvO.loadOwnAgg {e : TypeId} {s i : Nat} {bx : Bool} {els : List (List T)} {c : List T} (hx : val fr x = .addr e s [] i 0) (hf : fr s = .t (.own bx e els)) (hi : els[i]? = some c) (him : c.all T.imm = true)
    (ht : tyOf X.P t = some (true, c.length)) (hne0 : c.isEmpty = false) (hN : Nat.blt d X.N = true) (hw : wantF ops fr gd = some true)
    (h : EvO X ops rest (upd fr d (.agg c)) K) : EvO X ops ((⟨some d, .load t x, ty, ps, af, gd⟩, nr) :: rest) fr K :=
  EvO.q _ rfl rfl hN hw (fun a w g hinv => by
    have hne : c ≠ [] := by intro e0; rw [e0] at hne0; cases hne0
    have hp := inv_val hinv 0 x
    rw [hx] at hp
    obtain ⟨b, base, hd, hv⟩ := hp
    obtain ⟨b', base', n', cap, cs, f, h1, _, _, h4, _, _, _, _, _, _, h5, h6⟩ := own_row hinv hf (ne_of_get hi)
    obtain ⟨rfl, rfl⟩ := hdrAt_own hd h1
    let vs := (List.range c.length).map (f i)
    have hlen : vs.length = c.length := by simp [vs]
    have hcell : ∀ (j : Nat) (v : Value), vs[j]? = some v → w.cell? ((⟨b, base + (i * szOf X.P e + 0), none⟩ : Addr).add j) = some v := fun j v hj => by
      obtain ⟨hj1, rfl⟩ := list_of_fun (f i) j v hj
      have hc := h5 i c j _ hi (List.getElem?_eq_getElem hj1)
      rw [addr_add, cell_of_row w b _ cs e (0, 0) h4, Nat.add_zero, Nat.add_assoc]; exact hc
    refine ⟨.agg vs.toArray, fun w' hw' => ?_, vs.toArray, rfl, by simp [vs], fun k q hq => ?_⟩
    · have hL := lat_of_cls rfl hw'
      have hr := run_load_agg (P := X.P) (w := w') (t := t) (cs := vs) (by rw [hlen]; exact ht) (by intro e0; rw [e0] at hlen; exact hne (List.eq_nil_of_length_eq_zero hlen.symm)) (a := ⟨b, base + (i * szOf X.P e + 0), none⟩) (fun j v hj => hL.cell (hcell j v hj))
      simp only [execOp, hv, Instr.loadAt, Instr.sureAddr, Sem.run_bind, Sem.run_pure, Result.andThen_ok, hr]
    · have hk : k < c.length := (List.getElem?_eq_some_iff.1 hq).1
      exact ⟨f i k, by simp [vs, hk], .im _ _ _ ((h6 i c k q hi hq).im' (List.all_eq_true.1 him q (List.mem_of_getElem? hq)))⟩) h
/-- A load of one cell of what is only read. -/
theorem EvO.loadRo {c : List T} {q : T} (hx : val fr x = .roaddr c) (hk : c[0]? = some q) (ht : tyOne X.P t = true) (hN : Nat.blt d X.N = true) (hw : wantF ops fr gd = some true)
    (h : EvO X ops rest (upd fr d (.t q)) K) : EvO X ops ((⟨some d, .load t x, ty, ps, af, gd⟩, nr) :: rest) fr K :=
  EvO.q _ rfl rfl hN hw (fun a w g hinv => by
    have hp := inv_val hinv 0 x
    rw [hx] at hp
    obtain ⟨b, off, f, _, hv, hc⟩ := hp
    obtain ⟨h1, h2⟩ := hc 0 q hk
    simp only [Nat.add_zero] at h1
    refine ⟨f 0, fun w' hw' => ?_, .im _ _ _ h2⟩
    have hL := lat_of_cls rfl hw'
    simp only [execOp, hv, Instr.loadAt, Instr.sureAddr, Sem.run_bind, Sem.run_pure, Result.andThen_ok, run_load_one ht (hL.cell h1)]) h
theorem EvO.loadRoAgg {c : List T} (m : Nat) (hx : val fr x = .roaddr c) (hm : m ≤ c.length) (ht : tyOf X.P t = some (true, m)) (hne : 0 < m) (hN : Nat.blt d X.N = true) (hw : wantF ops fr gd = some true)
    (h : EvO X ops rest (upd fr d (.agg (c.take m))) K) : EvO X ops ((⟨some d, .load t x, ty, ps, af, gd⟩, nr) :: rest) fr K :=
  EvO.q _ rfl rfl hN hw (fun a w g hinv => by
    have hp := inv_val hinv 0 x
    rw [hx] at hp
    obtain ⟨b, off, f, _, hv, hc⟩ := hp
    let vs := (List.range m).map f
    have hlen : vs.length = m := by simp [vs]
    have hcell : ∀ (j : Nat) (v : Value), vs[j]? = some v → w.cell? ((⟨b, off, none⟩ : Addr).add j) = some v := fun j v hj => by
      obtain ⟨hj1, rfl⟩ := list_of_fun f j v hj
      rw [addr_add]
      exact (hc j _ (List.getElem?_eq_getElem (by omega))).1
    refine ⟨.agg vs.toArray, fun w' hw' => ?_, vs.toArray, rfl, by simp [vs]; omega, fun k q hq => ?_⟩
    · have hL := lat_of_cls rfl hw'
      have hr := run_load_agg (P := X.P) (w := w') (t := t) (cs := vs) (by rw [hlen]; exact ht) (by intro e0; rw [e0] at hlen; simp at hlen; omega) (a := ⟨b, off, none⟩) (fun j v hj => hL.cell (hcell j v hj))
      simp only [execOp, hv, Instr.loadAt, Instr.sureAddr, Sem.run_bind, Sem.run_pure, Result.andThen_ok, hr]
    · rw [List.getElem?_take] at hq
      split at hq
      · rename_i hk
        exact ⟨f k, by simp [vs, hk], .im _ _ _ (hc k q hq).2⟩
      · cases hq) h

/-- The address of a box's field. -/
theorem EvO.fldBox {e : TypeId} {s fi off n : Nat} {c : List (List T)} (hx : val fr x = .al s []) (hf : fr s = .t (.own true e c)) (hfl : fldOf X.P t fi = some (off, n + 1)) (hne0 : c.isEmpty = false) (hN : Nat.blt d X.N = true) (hw : wantF ops fr gd = some true)
    (h : EvO X ops rest (upd fr d (.addr e s [] 0 off)) K) : EvO X ops ((⟨some d, .fieldAddr t x fi, ty, ps, af, gd⟩, nr) :: rest) fr K :=
  EvO.q _ rfl rfl hN hw (fun a w g hinv => by
    have hne : c ≠ [] := by intro e0; rw [e0] at hne0; cases hne0
    have hp := inv_val hinv 0 x
    rw [hx] at hp
    have hp : a.eval x = g.hdr (s, []) := hp
    obtain ⟨b, base, n', cap, cs, f, h1, _⟩ := own_row hinv hf hne
    simp only [if_true] at h1
    refine ⟨.pointer (some ⟨b, base + off, none⟩), fun w' _ => ?_, b, base, .inr h1, by simp⟩
    simp only [execOp, hp, h1, Sem.run_bind, run_fieldAt hfl, addr_add, Sem.run_pure, Result.andThen_ok]) h
theorem EvO.fldAddr {e : TypeId} {s i k fi off n : Nat} (hx : val fr x = .addr e s [] i k) (hfl : fldOf X.P t fi = some (off, n + 1)) (hN : Nat.blt d X.N = true) (hw : wantF ops fr gd = some true)
    (h : EvO X ops rest (upd fr d (.addr e s [] i (k + off))) K) : EvO X ops ((⟨some d, .fieldAddr t x fi, ty, ps, af, gd⟩, nr) :: rest) fr K :=
  EvO.q _ rfl rfl hN hw (fun a w g hinv => by
    have hp := inv_val hinv 0 x
    rw [hx] at hp
    obtain ⟨b, base, hd, hv⟩ := hp
    refine ⟨.pointer (some ⟨b, base + (i * szOf X.P e + (k + off)), none⟩), fun w' _ => ?_, b, base, hd, rfl⟩
    simp only [execOp, hv, Sem.run_bind, run_fieldAt hfl, addr_add, Sem.run_pure, Result.andThen_ok, Nat.add_assoc]) h
theorem EvO.fldRo {c : List T} {fi off n : Nat} (hx : val fr x = .roaddr c) (hfl : fldOf X.P t fi = some (off, n + 1)) (hN : Nat.blt d X.N = true) (hw : wantF ops fr gd = some true)
    (h : EvO X ops rest (upd fr d (.roaddr (c.drop off))) K) : EvO X ops ((⟨some d, .fieldAddr t x fi, ty, ps, af, gd⟩, nr) :: rest) fr K :=
  EvO.q _ rfl rfl hN hw (fun a w g hinv => by
    have hp := inv_val hinv 0 x
    rw [hx] at hp
    obtain ⟨b, o, f, hS, hv, hc⟩ := hp
    refine ⟨.pointer (some ⟨b, o + off, none⟩), fun w' _ => ?_, b, o + off, fun j => f (off + j), hS, rfl, fun k q hq => ?_⟩
    · simp only [execOp, hv, Sem.run_bind, run_fieldAt hfl, addr_add, Sem.run_pure, Result.andThen_ok]
    · rw [List.getElem?_drop] at hq
      rw [Nat.add_assoc]
      exact hc (off + k) q hq) h
theorem EvO.fldRptr {c : List T} {fi off n : Nat} (hx : val fr x = .t (.rptr c)) (hfl : fldOf X.P t fi = some (off, n + 1)) (hN : Nat.blt d X.N = true) (hw : wantF ops fr gd = some true)
    (h : EvO X ops rest (upd fr d (.roaddr (c.drop off))) K) : EvO X ops ((⟨some d, .fieldAddr t x fi, ty, ps, af, gd⟩, nr) :: rest) fr K :=
  EvO.q _ rfl rfl hN hw (fun a w g hinv => by
    have hp := inv_val hinv 0 x
    rw [hx] at hp
    generalize hv : a.eval x = v at hp
    cases Rep.im' hp rfl with
    | rptr _ b o f hS hcell hrep =>
      refine ⟨.pointer (some ⟨b, o + off, none⟩), fun w' _ => ?_, b, o + off, fun j => f (off + j), hS, rfl, fun k q hq => ?_⟩
      · simp only [execOp, hv, Sem.run_bind, run_fieldAt hfl, addr_add, Sem.run_pure, Result.andThen_ok]
      · rw [List.getElem?_drop] at hq
        rw [Nat.add_assoc]
        exact ⟨hcell (off + k) q hq, hrep (off + k) q hq⟩) h

/-- The address of an element. -/
theorem EvO.idxRo {n : Nat} {els : List (List T)} {c : List T} {z : Int} (hx : val fr x = .t (.ro els)) (hy : val fr y = .t (.int z)) (h0 : 0 ≤ z) (hi : els[z.toNat]? = some c)
    (hl : c.length = n + 1) (hes : elSz X.P t = some (n + 1)) (hN : Nat.blt d X.N = true) (hw : wantF ops fr gd = some true)
    (h : EvO X ops rest (upd fr d (.roaddr c)) K) : EvO X ops ((⟨some d, .indexAddr t x y, ty, ps, af, gd⟩, nr) :: rest) fr K :=
  EvO.q _ rfl rfl hN hw (fun a w g hinv => by
    obtain ⟨e, he, hs⟩ := elSz_spec hes
    have hp := inv_val hinv 0 x
    rw [hx] at hp
    generalize hv : a.eval x = v at hp
    have hlt : z.toNat < els.length := (List.getElem?_eq_some_iff.1 hi).1
    cases Rep.im' hp rfl with
    | ro0 => simp at hi
    | ro _ b off n' cap s f hn hc hm hS hs0 hsz hcell hrep =>
      have hs1 : s = n + 1 := (hsz _ _ hi).symm.trans hl
      subst hs1
      refine ⟨.pointer (some ⟨b, off + z.toNat * (n + 1), none⟩), fun w' _ => ?_, b, off + z.toNat * (n + 1), f z.toNat, hS, rfl, fun k q hq => ?_⟩
      · simp only [execOp, hv, inv_int hinv hy, Sem.run_bind, run_indexAt he hs ⟨b, off, none⟩ n' cap z h0 (by omega), addr_add, Sem.run_pure, Result.andThen_ok]
      · have := hcell _ _ k q hi hq
        rw [Nat.add_assoc]
        exact ⟨this, hrep _ _ k q hi hq⟩) h
theorem EvO.idxOwn {e : TypeId} {s : Nat} {els : List (List T)} {z : Int} (hx : val fr x = .al s []) (hf : fr s = .t (.own false e els)) (hy : val fr y = .t (.int z)) (h0 : 0 ≤ z) (hi : z.toNat < els.length)
    (he : elemOf' X.P t = some e) (hN : Nat.blt d X.N = true) (hw : wantF ops fr gd = some true)
    (h : EvO X ops rest (upd fr d (.addr e s [] z.toNat 0)) K) : EvO X ops ((⟨some d, .indexAddr t x y, ty, ps, af, gd⟩, nr) :: rest) fr K :=
  EvO.q _ rfl rfl hN hw (fun a w g hinv => by
    have hp := inv_val hinv 0 x
    rw [hx] at hp
    have hp : a.eval x = g.hdr (s, []) := hp
    obtain ⟨b, base, n', cap, cs, f, h1, _, _, _, hn, _, _, _, hpos, _⟩ := own_row hinv hf (by intro e0; rw [e0] at hi; simp at hi)
    obtain ⟨n, hs⟩ : ∃ n, szOf X.P e = n + 1 := ⟨szOf X.P e - 1, by omega⟩
    simp only [Bool.false_eq_true, if_false] at h1
    refine ⟨.pointer (some ⟨b, base + z.toNat * (n + 1), none⟩), fun w' _ => ?_, b, base, .inl ⟨_, _, h1⟩, by simp only [hs, Nat.add_zero]⟩
    simp only [execOp, hp, h1, inv_int hinv hy, Sem.run_bind, run_indexAt he hs ⟨b, base, none⟩ n' cap z h0 (by omega), addr_add, Sem.run_pure, Result.andThen_ok]) h

/-- len -/
theorem run_len {P : Program} {w : World} {ρ : Operand → Value} {a : Option Addr} {n cap : Nat} (he : isSl P t = true) (hx : ρ x = .slice a n cap) :
    (execOp ρ ⟨some d, .call { callee := .builtin .len, args := #[x], argTypes := #[t] }, ty, ps, af, gd⟩).run P w = .ok (.value (.int .i64 (n : Int))) w := by
  obtain ⟨e, hu⟩ : ∃ e, P.underlying t = some (.slice e) := by
    unfold isSl at he
    cases hu : P.underlying t with
    | none => simp [hu] at he
    | some d => cases d <;> simp [hu] at he; exact ⟨_, rfl⟩
  simp [execOp, resolve, invoke, builtin, Builtin.len_, hx, run_underlying hu, goInt]
theorem EvO.lenRo {els : List (List T)} (hx : val fr x = .t (.ro els)) (he : isSl X.P t = true) (hN : Nat.blt d X.N = true) (hw : wantF ops fr gd = some true)
    (h : EvO X ops rest (upd fr d (.t (.int (els.length : Int)))) K) : EvO X ops ((⟨some d, .call { callee := .builtin .len, args := #[x], argTypes := #[t] }, ty, ps, af, gd⟩, nr) :: rest) fr K :=
  EvO.q _ rfl rfl hN hw (fun a w g hinv => by
    have hp := inv_val hinv 0 x
    rw [hx] at hp
    generalize hv : a.eval x = v at hp
    cases Rep.im' hp rfl with
    | ro0 a' cap => exact ⟨_, fun w' _ => run_len he hv, pint _⟩
    | ro _ b off n' cap s f hn => subst hn; exact ⟨_, fun w' _ => run_len he hv, pint _⟩) h
theorem EvO.lenOwn {e' : TypeId} {s : Nat} {els : List (List T)} (hx : val fr x = .al s []) (hf : fr s = .t (.own false e' els)) (he : isSl X.P t = true) (hN : Nat.blt d X.N = true) (hw : wantF ops fr gd = some true)
    (h : EvO X ops rest (upd fr d (.t (.int (els.length : Int)))) K) : EvO X ops ((⟨some d, .call { callee := .builtin .len, args := #[x], argTypes := #[t] }, ty, ps, af, gd⟩, nr) :: rest) fr K :=
  EvO.q _ rfl rfl hN hw (fun a w g hinv => by
    have hp := inv_val hinv 0 x
    rw [hx] at hp
    have hp : a.eval x = g.hdr (s, []) := hp
    have hs := hinv.slot s
    rw [hf] at hs
    generalize a.tmps.getD s undef = v at hs
    cases hs with
    | im _ _ _ h => cases h
    | own0 _ _ _ hd hv =>
      rcases hv with rfl | ⟨a', rfl⟩
      · exact ⟨_, fun w' _ => run_len he (hp.trans hd), pint _⟩
      · exact ⟨_, fun w' _ => run_len he (hp.trans hd), pint _⟩
    | own _ _ _ _ b base n' cap cs f _ hv' hd ho hh hn =>
      subst hn
      rw [hv'] at hd
      simp only [Bool.false_eq_true, if_false] at hd
      exact ⟨_, fun w' _ => run_len he (hp.trans hd), pint _⟩) h
theorem EvO.lenNil (hx : val fr x = .t .nil) (he : isSl X.P t = true) (hN : Nat.blt d X.N = true) (hw : wantF ops fr gd = some true)
    (h : EvO X ops rest (upd fr d (.t (.int 0))) K) : EvO X ops ((⟨some d, .call { callee := .builtin .len, args := #[x], argTypes := #[t] }, ty, ps, af, gd⟩, nr) :: rest) fr K :=
  EvO.q _ rfl rfl hN hw (fun a w g hinv => by
    have hp := inv_val hinv 0 x
    rw [hx] at hp
    generalize hv : a.eval x = v at hp
    cases Rep.im' hp rfl with
    | nil => exact ⟨_, fun w' _ => run_len (n := 0) he hv, pint _⟩) h

/-- Where it stands that a list is no longer than memory bears. -/
theorem EvO.len_le {l : List (Oper × Bool)} (s : Nat) {els : List (List T)} (hf : fr s = .t (.ro els)) (h : els.length ≤ maxLen → EvO X ops l fr K) : EvO X ops l fr K := by
  refine ⟨fun a w ⟨g, hinv⟩ => ?_⟩
  have hs := hinv.slot s
  rw [hf] at hs
  refine (h ?_).run a w ⟨g, hinv⟩
  generalize a.tmps.getD s undef = v at hs
  cases Rep.im' hs rfl with
  | ro0 => simp
  | ro _ b off n' cap _ f hn hc hm => omega
end
end Go.Ev
