/-
  Own work. The rules of the frame logic: moves of an owned tree, sealing, slice literals.
-/
import Derived.Test.YtphdildkhaeimaaEvH
namespace Go.Ev
open Go Go.RowKit

section
variable {X : Ctx} {fr : Frame}
theorem inv_junk {a : Act} {w : World} {g : G} (hinv : InvG X fr a w g) (s : Nat) : InvG X (upd fr s .junk) a w g :=
  ⟨hinv.size, hinv.nodef, hinv.ok, fun s' => by
    by_cases q : s' = s
    · subst q; rw [upd_same]; trivial
    · rw [upd_ne _ _ _ _ q]; exact hinv.slot s'⟩

/-- A tree goes over to another slot. -/
theorem inv_move {a : Act} {w : World} {g : G} (hinv : InvG X fr a w g) {s d : Nat} {x : T} (hf : fr s = .t x) (hne : s ≠ d) (hN : Nat.blt d X.N = true) : Inv X (place (upd fr s .junk) d (.t x)) (a.put (some d) (a.tmps.getD s undef)) w := by
  let g' : G := ⟨g.S, fun b => match g.own b with | some l => if l.1 = s then some (d, l.2) else some l | none => none, fun l => if l.1 = d then g.hdr (s, l.2) else g.hdr l⟩
  have hs := hinv.slot s
  rw [hf] at hs
  have hrep : Rep X.P w g' (d, []) x (a.tmps.getD s undef) := Rep.move hs _ (fun b hb => ⟨hb, rfl⟩) (fun b q hq => ⟨by simp only [g', hq]; simp, rfl⟩) (fun q => by simp [g'])
  have hd : d < a.tmps.size := by rw [hinv.size]; simpa using hN
  refine ⟨g', ⟨by simpa [Act.put] using hinv.size, hinv.nodef, ⟨hinv.ok.bel, hinv.ok.base, hinv.ok.S, fun b l hl => ?_⟩, fun s' => ?_⟩⟩
  · simp only [g'] at hl
    cases hg : g.own b with
    | none => rw [hg] at hl; cases hl
    | some l0 => exact hinv.ok.own b l0 hg
  · by_cases hsd : s' = d
    · subst hsd
      rw [place_same]
      simp only [Act.put]
      rw [getD_set_eq _ _ _ hd]
      exact hrep
    · rw [place_ne _ _ _ _ hsd]
      simp only [Act.put]
      rw [getD_set_ne' _ _ _ _ (Ne.symm hsd)]
      by_cases hss : s' = s
      · subst hss; rw [upd_same]; trivial
      · rw [upd_ne _ _ _ _ hss]
        have hsl := hinv.slot s'
        have keep : ∀ p' : PV, PRep X.P w g s' p' (a.tmps.getD s' undef) → (∀ s'' q', (p' = .al s'' q' ∨ ∃ e i k, p' = .addr e s'' q' i k) → s'' ≠ d) → PRep X.P w g' s' p' (a.tmps.getD s' undef) := fun p' hp' hnd =>
          hp'.keep (fun b hb => ⟨hb, rfl⟩) (fun b q hq => ⟨by simp only [g', hq]; simp [hss], rfl⟩) (fun q => by simp [g', hsd]) (fun s'' q' he => by simp [g', hnd s'' q' he])
        cases hfs : fr s' with
        | al s'' q' =>
          show PRep X.P w g' s' (bif Nat.beq s'' d then .junk else .al s'' q') _
          cases hbq : Nat.beq s'' d with
          | true => trivial
          | false =>
            rw [hfs] at hsl
            exact keep _ hsl (fun s3 q3 he => by
              rcases he with he | ⟨_, _, _, he⟩ <;> cases he
              intro e0; rw [e0, beq_self] at hbq; cases hbq)
        | addr e' s'' q' i k =>
          show PRep X.P w g' s' (bif Nat.beq s'' d then .junk else .addr e' s'' q' i k) _
          cases hbq : Nat.beq s'' d with
          | true => trivial
          | false =>
            rw [hfs] at hsl
            exact keep _ hsl (fun s3 q3 he => by
              rcases he with he | ⟨_, _, _, he⟩ <;> cases he
              intro e0; rw [e0, beq_self] at hbq; cases hbq)
        | _ =>
          rw [hfs] at hsl
          exact keep _ hsl (fun s3 q3 he => by rcases he with he | ⟨_, _, _, he⟩ <;> cases he)

/-- An owned list is sealed: from here on it is only read. -/
theorem inv_seal {a : Act} {w : World} {g : G} (hinv : InvG X fr a w g) {s : Nat} {e : TypeId} {els : List (List T)} (hf : fr s = .t (.own false e els)) (him : Imm els) : Inv X (upd fr s (.t (.ro els))) a w := by
  have hs := hinv.slot s
  rw [hf] at hs
  let g' : G := ⟨fun b => g.S b ∨ g.own b = some (s, []), fun b => if g.own b = some (s, []) then none else g.own b, g.hdr⟩
  have hok' : GOK X g' w := ⟨hinv.ok.bel, hinv.ok.base, fun b hb => by
      rcases hb with hb | hb
      · exact hinv.ok.S b hb
      · obtain ⟨q1, q2, _⟩ := hinv.ok.own b _ hb
        exact ⟨q2, .inr q1⟩, fun b l hl => by
      simp only [g'] at hl
      split at hl
      · cases hl
      · rename_i hne
        obtain ⟨q1, q2, q3⟩ := hinv.ok.own b l hl
        exact ⟨q1, q2, fun h => by rcases h with h | h; exact q3 h; exact hne h⟩⟩
  refine ⟨g', ⟨hinv.size, hinv.nodef, hok', fun s' => ?_⟩⟩
  by_cases hss : s' = s
  · subst hss
    rw [upd_same]
    generalize a.tmps.getD s' undef = v at hs
    refine .im _ _ _ ?_
    cases hs with
    | im _ _ _ h => cases h
    | own0 _ _ _ _ hv => rcases hv with rfl | ⟨a', rfl⟩ <;> exact .ro0 _ _
    | own _ _ _ _ b base n cap cs f _ hv hd ho hh hn hc hm hcs hs0 hsz hcell hrep =>
      simp only [Bool.false_eq_true, if_false] at hv
      subst hv
      refine .ro els b base n cap (szOf X.P e) f hn hc hm (.inr ho) hs0 hsz (fun i c k x q1 q2 => by rw [cell_of_row w b _ cs e (0, 0) hh]; exact hcell i c k x q1 q2) (fun i c k x q1 q2 => ?_)
      exact ((hrep i c k x q1 q2).im' (him c (List.mem_of_getElem? q1) x (List.mem_of_getElem? q2))).keep fun b hb => ⟨.inl hb, rfl⟩
  · rw [upd_ne _ _ _ _ hss]
    exact (hinv.slot s').keep (fun b hb => ⟨.inl hb, rfl⟩) (fun b q hq => ⟨by
      simp only [g']
      rw [if_neg (by rw [hq]; intro e0; cases e0; exact hss rfl)]; exact hq, rfl⟩) (fun _ => rfl) (fun _ _ _ => rfl)
end

section
variable {X : Ctx} {ops : Array Oper} {rest : List (Oper × Bool)} {fr : Frame} {K : Frame → Prop} {nr : Bool}
variable {d : Nat} {x y : Operand} {t t' ty : TypeId} {ps : String} {af : Array Edge} {gd : Option (Nat × Bool)}

theorem EvO.qF {o : Oper} {d : Nat} {fr' : Frame} (hq : isQ o.op = true) (hd : o.dst = some d) (hw : wantF ops fr o.guard = some true)
    (hrun : ∀ (a : Act) (w : World) (g : G), InvG X fr a w g → ∃ v, (∀ w', Cls o w w' → (execOp a.eval o).run X.P w' = .ok (.value v) w') ∧ Inv X fr' (a.put (some d) v) w)
    (h : EvO X ops rest fr' K) : EvO X ops ((o, nr) :: rest) fr K := by
  refine ⟨fun a w ⟨g, hi⟩ => ?_⟩
  unfold LexL
  rw [if_pos hq]
  obtain ⟨v, h1, h2⟩ := hrun a w g hi
  refine ⟨v, .inl ⟨inv_wanted hi hw, h1⟩, ?_⟩
  rw [hd]
  exact h.run _ _ h2
/-- x = y, y an owned list: the tree goes over. -/
theorem EvO.assignOwn {s : Nat} {bx : Bool} {e : TypeId} {els : List (List T)} (hx : val fr x = .al s []) (hf : fr s = .t (.own bx e els)) (hne0 : Nat.beq s d = false) (hN : Nat.blt d X.N = true) (hw : wantF ops fr gd = some true)
    (h : EvO X ops rest (place (upd fr s .junk) d (.t (.own bx e els))) K) : EvO X ops ((⟨some d, .assign x, ty, ps, af, gd⟩, nr) :: rest) fr K :=
  EvO.qF rfl rfl hw (fun a w g hinv => by
    have hp := inv_val hinv 0 x
    rw [hx] at hp
    have hp : a.eval x = g.hdr (s, []) := hp
    have hs := hinv.slot s
    rw [hf] at hs
    have hh := Rep.hdr' hs rfl (fun e0 => by cases e0)
    have hv : a.eval x = a.tmps.getD s undef := hp.trans hh
    refine ⟨a.tmps.getD s undef, fun w' _ => by simp only [execOp, hv, Sem.run_pure], inv_move hinv hf (beq_false_ne hne0) hN⟩) h
theorem EvO.shut {l : List (Oper × Bool)} (s : Nat) {e : TypeId} {els : List (List T)} (hf : fr s = .t (.own false e els)) (him : Imm els) (h : EvO X ops l (upd fr s (.t (.ro els))) K) : EvO X ops l fr K :=
  ⟨fun a w ⟨_, hi⟩ => h.run a w (inv_seal hi hf him)⟩
theorem Ev.shut {c : Code} {KK : Exit → Frame → Prop} (s : Nat) {e : TypeId} {els : List (List T)} (hf : fr s = .t (.own false e els)) (him : Imm els) (h : Ev X c (upd fr s (.t (.ro els))) KK) : Ev X c fr KK :=
  ⟨fun a w ⟨_, hi⟩ => h.run a w (inv_seal hi hf him)⟩
/-- A nil slice in a slot is an owned list without elements. -/
theorem Ev.adopt {c : Code} {KK : Exit → Frame → Prop} (s : Nat) (e : TypeId) (hf : fr s = .t .nil) (h : Ev X c (place fr s (.t (.own false e []))) KK) : Ev X c fr KK :=
  ⟨fun a w ⟨g, hi⟩ => h.run a w (by
    let g' : G := ⟨g.S, g.own, fun l => if l = (s, []) then .slice none 0 0 else g.hdr l⟩
    have hs := hi.slot s
    rw [hf] at hs
    have hv : a.tmps.getD s undef = .slice none 0 0 := by
      generalize a.tmps.getD s undef = v at hs
      cases Rep.im' hs rfl; rfl
    refine ⟨g', ⟨hi.size, hi.nodef, ⟨hi.ok.bel, hi.ok.base, hi.ok.S, hi.ok.own⟩, fun s' => ?_⟩⟩
    by_cases hss : s' = s
    · subst hss
      rw [place_same, hv]
      exact .own0 _ _ _ (by simp [g']) (.inl rfl)
    · rw [place_ne _ _ _ _ hss]
      have hsl := hi.slot s'
      have keep : ∀ p' : PV, PRep X.P w g s' p' (a.tmps.getD s' undef) → (∀ s'' q', (p' = .al s'' q' ∨ ∃ e i k, p' = .addr e s'' q' i k) → s'' ≠ s) → PRep X.P w g' s' p' (a.tmps.getD s' undef) := fun p' hp' hnd =>
        hp'.keep (fun b hb => ⟨hb, rfl⟩) (fun b q hq => ⟨hq, rfl⟩) (fun q => by simp [g', hss]) (fun s'' q' he => by simp [g', hnd s'' q' he])
      cases hfs : fr s' with
      | al s'' q' =>
        show PRep X.P w g' s' (bif Nat.beq s'' s then .junk else .al s'' q') _
        cases hbq : Nat.beq s'' s with
        | true => trivial
        | false =>
          rw [hfs] at hsl
          exact keep _ hsl (fun s3 q3 he => by
            rcases he with he | ⟨_, _, _, he⟩ <;> cases he
            intro e0; rw [e0, beq_self] at hbq; cases hbq)
      | addr e' s'' q' i k =>
        show PRep X.P w g' s' (bif Nat.beq s'' s then .junk else .addr e' s'' q' i k) _
        cases hbq : Nat.beq s'' s with
        | true => trivial
        | false =>
          rw [hfs] at hsl
          exact keep _ hsl (fun s3 q3 he => by
            rcases he with he | ⟨_, _, _, he⟩ <;> cases he
            intro e0; rw [e0, beq_self] at hbq; cases hbq)
      | _ =>
        rw [hfs] at hsl
        exact keep _ hsl (fun s3 q3 he => by rcases he with he | ⟨_, _, _, he⟩ <;> cases he))⟩

/-! ### Slice literals -/
def partCells (fr : Frame) (x : Operand) : List T := match val fr x with
  | .t q => [q]
  | .agg qs => qs
  | _ => []
def partsFrom (fr : Frame) : List (Nat × Operand) → List (List T)
  | [] => []
  | (_, x) :: l => partCells fr x :: partsFrom fr l
def inOrder : Nat → List (Nat × Operand) → Bool
  | _, [] => true
  | k, (i, _) :: l => Nat.beq i k && inOrder (k + 1) l

theorem fill_one (cs : Array Value) (off : Nat) : ∀ (vs : List Value) (j : Nat) (m : Nat), off + j + vs.length ≤ cs.size →
    ((vs.zipIdx j).foldl (fun cs (c, j) => cs.setIfInBounds (off + j) c) cs).size = cs.size ∧
    ((vs.zipIdx j).foldl (fun cs (c, j) => cs.setIfInBounds (off + j) c) cs)[m]? = if off + j ≤ m ∧ m < off + j + vs.length then vs[m - (off + j)]? else cs[m]? := by
  intro vs
  induction vs generalizing cs with
  | nil => intro j m _; simp; intro h1 h2; omega
  | cons v vs ih =>
    intro j m h
    simp only [List.zipIdx_cons, List.foldl_cons, List.length_cons] at h ⊢
    obtain ⟨h1, h2⟩ := ih (cs.setIfInBounds (off + j) v) (j + 1) m (by simp; omega)
    refine ⟨by rw [h1]; simp, ?_⟩
    rw [h2]
    by_cases hm : m = off + j
    · subst hm
      rw [if_neg (by omega), if_pos (by omega)]
      simp only [Nat.sub_self, List.getElem?_cons_zero]
      rw [Array.getElem?_setIfInBounds_self_of_lt (by omega)]
    · rw [Array.getElem?_setIfInBounds_ne (by omega)]
      by_cases hin : off + (j + 1) ≤ m ∧ m < off + (j + 1) + vs.length
      · rw [if_pos hin, if_pos (by omega)]
        have : m - (off + j) = (m - (off + (j + 1))) + 1 := by omega
        rw [this, List.getElem?_cons_succ]
      · rw [if_neg hin, if_neg (by omega)]

/-- The parts in order, each of 'sz' cells. -/
theorem fill_all (sz : Nat) : ∀ (parts : List Value) (k : Nat) (cs : Array Value), (∀ v ∈ parts, v.cells.size = sz) → (k + parts.length) * sz ≤ cs.size →
    ∃ cs', Instr.fill (fun i => some (i * sz, sz)) cs ((parts.zipIdx k).map fun (v, i) => (i, v)) = some cs' ∧ cs'.size = cs.size ∧ (∀ m, m < k * sz → cs'[m]? = cs[m]?) ∧
      ∀ (i : Nat) (v : Value), parts[i]? = some v → ∀ j, j < sz → cs'[(k + i) * sz + j]? = v.cells[j]? := by
  intro parts
  induction parts with
  | nil => intro k cs _ _; exact ⟨cs, rfl, rfl, fun _ _ => rfl, fun i v h => by simp at h⟩
  | cons v parts ih =>
    intro k cs hsz hl
    have hv := hsz v (by simp)
    have hk1 : (k + 1) * sz ≤ cs.size := Nat.le_trans (Nat.mul_le_mul_right _ (by simp)) hl
    rw [Nat.add_mul, Nat.one_mul] at hk1
    let cs1 := v.cells.zipIdx.foldl (fun cs (c, j) => cs.setIfInBounds (k * sz + j) c) cs
    have hcs1 : cs1 = (v.cells.toList.zipIdx 0).foldl (fun cs (c, j) => cs.setIfInBounds (k * sz + j) c) cs := by
      simp only [cs1]
      rw [← Array.foldl_toList, Array.toList_zipIdx]
    have hf := fun m => fill_one cs (k * sz) v.cells.toList 0 m (by simp; omega)
    rw [← hcs1] at hf
    obtain ⟨cs', h1, h2, h3, h4⟩ := ih (k + 1) cs1 (fun u hu => hsz u (by simp [hu])) (by
      rw [(hf 0).1]
      have : k + 1 + parts.length = k + (v :: parts).length := by simp; omega
      rw [this]; exact hl)
    refine ⟨cs', ?_, by rw [h2, (hf 0).1], fun m hm => ?_, fun i u hu j hj => ?_⟩
    · simp only [List.zipIdx_cons, List.map_cons, Instr.fill]
      rw [if_neg (by simp [hv]; omega)]
      exact h1
    · rw [h3 m (by rw [Nat.add_mul]; omega), (hf m).2, if_neg (by omega)]
    · cases i with
      | zero =>
        simp at hu; subst hu
        rw [Nat.add_zero, h3 _ (by rw [Nat.add_mul]; omega), (hf _).2, if_pos (by simp; omega)]
        have : k * sz + j - (k * sz + 0) = j := by omega
        rw [this, Array.getElem?_toList]
      | succ i =>
        have := h4 i u (by simpa using hu) j hj
        rwa [show k + 1 + i = k + (i + 1) from by omega] at this

theorem parts_zip (ρ : Operand → Value) : ∀ (l : List (Nat × Operand)) (k : Nat), inOrder k l = true → l.map (fun (i, x) => (i, ρ x)) = ((l.map fun p => ρ p.2).zipIdx k).map fun (v, i) => (i, v)
  | [], _, _ => rfl
  | (i, x) :: l, k, h => by
    simp only [inOrder, Bool.and_eq_true] at h
    have hi := Nat.eq_of_beq_eq_true h.1
    subst hi
    simp only [List.map_cons, List.zipIdx_cons]
    rw [parts_zip ρ l (i + 1) h.2]
theorem partsFrom_get (fr : Frame) : ∀ (l : List (Nat × Operand)) (i : Nat), (partsFrom fr l)[i]? = (l[i]?).map fun p => partCells fr p.2
  | [], _ => by simp [partsFrom]
  | (_, x) :: l, 0 => by simp [partsFrom]
  | (_, x) :: l, i + 1 => by simpa [partsFrom] using partsFrom_get fr l i
theorem part_rep {a : Act} {w : World} {g : G} (hinv : InvG X fr a w g) (x : Operand) {n : Nat} (hl : (partCells fr x).length = n + 1) (hso : ∀ q ∈ partCells fr x, T.solid q = true) :
    (a.eval x).cells.size = n + 1 ∧ ∀ (k : Nat) (q : T), (partCells fr x)[k]? = some q → ∃ u, (a.eval x).cells[k]? = some u ∧ IRep w g.S q u := by
  have hp := arg_rep hinv x
  unfold argOf at hp
  unfold partCells at hl hso ⊢
  cases hv : val fr x with
  | t q =>
    rw [hv] at hp hl hso
    have hp : IRep w g.S q (a.eval x) := hp
    have hg : q ≠ .gone := fun e0 => by have := hso q (by simp); rw [e0] at this; cases this
    have hc := irep_cells hp hg
    simp at hl
    subst hl
    refine ⟨by rw [hc]; rfl, fun k q' hq => ?_⟩
    cases k with
    | zero => simp at hq; subst hq; exact ⟨_, by rw [hc]; rfl, hp⟩
    | succ k => simp at hq
  | agg qs =>
    rw [hv] at hp hl
    obtain ⟨vs, h1, h2, h3⟩ := hp
    have hl : qs.length = n + 1 := hl
    refine ⟨by rw [h1]; show vs.size = _; omega, fun k q hq => ?_⟩
    obtain ⟨u, hu, hr⟩ := h3 k q hq
    exact ⟨u, by rw [h1]; exact hu, hr⟩
  | _ => rw [hv] at hl; simp at hl

/-- []T{..}, all places given in order. -/
theorem EvO.buildSlice {e : TypeId} {m n : Nat} {parts : Array (Nat × Operand)} {els : List (List T)} {zs : List T} (hp : partsFrom fr parts.toList = els) (hord : inOrder 0 parts.toList = true) (hm : parts.toList.length = m) (he : elemOf' X.P t = some e) (hz : zeroT X.P e = some zs) (hs : szOf X.P e = n + 1) (hzl : zs.length = n + 1)
    (hln : els.all (fun c => Nat.beq c.length (n + 1)) = true) (hso : els.all (fun c => c.all T.solid) = true) (hsmall : Nat.ble (m * (n + 1)) 16777216 = true) (hmpos : Nat.blt 0 m = true) (hN : Nat.blt d X.N = true) (hw : wantF ops fr gd = some true)
    (h : EvO X ops rest (place fr d (.t (.own false e els))) K) : EvO X ops ((⟨some d, .buildSlice t m parts, ty, ps, af, gd⟩, nr) :: rest) fr K :=
  EvO.w rfl hw (fun a w g hi => by
    have hmp : 0 < m := by simpa using hmpos
    have hsm : m * (n + 1) ≤ 16777216 := by simpa using hsmall
    obtain ⟨i, z, hinfo, hzero, hzsz, _⟩ := zeroT_spec hz
    have hisz : i.size = n + 1 := by rw [← hs]; simp [szOf, hinfo]
    have hu := elem_under he
    have hel : els.length = m := by
      rw [← hp, ← hm]
      generalize parts.toList = l
      induction l with
      | nil => rfl
      | cons p l ih => obtain ⟨_, _⟩ := p; simp [partsFrom, ih]
    have hget : ∀ (j : Nat) (c : List T), els[j]? = some c → ∃ p : Nat × Operand, parts.toList[j]? = some p ∧ c = partCells fr p.2 ∧ c.length = n + 1 ∧ ∀ q ∈ c, T.solid q = true := fun j c hc => by
      have hc' := hc
      rw [← hp, partsFrom_get, Option.map_eq_some_iff] at hc
      obtain ⟨p, hp1, hp2⟩ := hc
      have hmem := List.mem_of_getElem? hc'
      refine ⟨p, hp1, hp2.symm, Nat.eq_of_beq_eq_true (List.all_eq_true.1 hln c hmem), fun q hq => List.all_eq_true.1 (List.all_eq_true.1 hso c hmem) q hq⟩
    have hpr : ∀ (j : Nat) (p : Nat × Operand), parts.toList[j]? = some p → (a.eval p.2).cells.size = n + 1 ∧ ∀ (k : Nat) (q : T), (partCells fr p.2)[k]? = some q → ∃ u, (a.eval p.2).cells[k]? = some u ∧ IRep w g.S q u := fun j p hpj => by
      have hc : els[j]? = some (partCells fr p.2) := by rw [← hp, partsFrom_get, hpj]; rfl
      obtain ⟨_, _, _, h3, h4⟩ := hget j _ hc
      exact part_rep hi p.2 h3 h4
    let vals := parts.toList.map fun p => a.eval p.2
    have hvl : vals.length = m := by simp [vals]; simpa using hm
    have hmm : m ≤ 16777216 := Nat.le_trans (Nat.le_mul_of_pos_right m (Nat.succ_pos n)) hsm
    have hz0 : ¬ m * (n + 1) = 0 := by
      have : 1 * 1 ≤ m * (n + 1) := Nat.mul_le_mul hmp (by omega)
      omega
    let cs0 := (Array.range (m * (n + 1))).map (z.cells[· % z.cells.size]!)
    have hcs0 : cs0.size = m * (n + 1) := by simp [cs0]
    obtain ⟨cs, hfill, hsz, _, hcells⟩ := fill_all (n + 1) vals 0 cs0 (fun v hv => by
      obtain ⟨p, hp1, rfl⟩ := List.mem_map.1 hv
      obtain ⟨j, hj⟩ := List.getElem?_of_mem hp1
      exact (hpr j p hj).1) (by rw [hvl, hcs0, Nat.zero_add]; exact Nat.le_refl _)
    have hzip := parts_zip a.eval parts.toList 0 hord
    have hrun : (execOp a.eval ⟨some d, .buildSlice t m parts, ty, ps, af, gd⟩).run X.P w = .ok (.value (.slice (some ⟨w.heap.size, 0, none⟩) m m)) (w.alloc (.cells cs e)) := by
      have hlim : ¬ (m * (n + 1) > 2 ^ 24) := by omega
      have hfill' : Instr.fill (fun i => some (i * (n + 1), n + 1)) ((Array.range (m * (n + 1))).map (z.cells[· % z.cells.size]!)) (parts.toList.map fun x => (x.1, a.eval x.2)) = some cs := by
        have e1 : (parts.toList.map fun x => (x.1, a.eval x.2)) = parts.toList.map (fun (i, x) => (i, a.eval x)) := rfl
        rw [e1, hzip]; exact hfill
      have hm0 : ¬ (m = 0) := by omega
      have hzv : (zeroValue e).run X.P w = .ok z w := by simp [zeroValue, typeInfo, hinfo, hzero]
      simp only [execOp, Instr.buildSlice, Sem.run_bind, run_underlying hu, Result.andThen_ok, run_sizeOf hs, hlim, if_false, hz0, hzv, Sem.run_pure, Array.toList_map]
      simp [hfill', newRow]
    unfold Oper.wp
    rw [hrun]
    refine ⟨fun _ => lat_alloc _ _, ?_⟩
    refine inv_alloc hi hN false e els m cs (fun i k => (vals.getD i undef).cells.getD k undef) (by rw [← hel]; simp) (by omega) (by simp only [maxLen]; omega) (by rw [hsz, hcs0, hs]) (by rw [hs]; omega) (fun j c hc => by obtain ⟨_, _, _, h3, _⟩ := hget j c hc; rw [hs]; exact h3) (fun j c k q hc hq => ?_) (fun j c k q hc hq => ?_)
    · obtain ⟨p, hp1, rfl, h3, _⟩ := hget j c hc
      have hk : k < n + 1 := by rw [← h3]; exact (List.getElem?_eq_some_iff.1 hq).1
      have hv : vals[j]? = some (a.eval p.2) := by simp only [vals, List.getElem?_map, hp1, Option.map_some]
      obtain ⟨u, hu', _⟩ := (hpr j p hp1).2 k q hq
      have := hcells j _ hv k hk
      rw [Nat.zero_add] at this
      rw [hs, this, hu', List.getD, hv]
      simp only [Option.getD_some]
      rw [Array.getD_eq_getD_getElem?, hu']; rfl
    · obtain ⟨p, hp1, rfl, h3, _⟩ := hget j c hc
      have hv : vals[j]? = some (a.eval p.2) := by simp only [vals, List.getElem?_map, hp1, Option.map_some]
      obtain ⟨u, hu', hr⟩ := (hpr j p hp1).2 k q hq
      rw [List.getD, hv]
      simp only [Option.getD_some]
      rw [Array.getD_eq_getD_getElem?, hu']; exact hr) h
end
end Go.Ev
