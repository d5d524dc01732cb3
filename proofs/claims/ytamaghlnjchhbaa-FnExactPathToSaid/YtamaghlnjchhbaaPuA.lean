/-
  Own work. A region that draws its order: ONE walk in one chosen order serves every order, where the operations that change the world wait for one another, and where behind each of them what was there before still stands as long as a load is still to come.
-/
import Derived.OrdersHeld
import Derived.Below
namespace Go.Pu
open Go Go.RowKit

/-- The later world: of what was there nothing has turned. -/
def Lat (w w' : World) : Prop := Below w.heap.size w w'
theorem Lat.refl (w : World) : Lat w w := Below.refl _ _
theorem Lat.trans {a b c : World} (h : Lat a b) (k : Lat b c) : Lat a c := Below.trans h (k.mono h.size)
theorem Lat.drew (w : World) : Lat w { w with drawn := w.drawn + 1 } := (Below.refl w.heap.size w).drew
theorem Lat.cell {w w' : World} (h : Lat w w') {p : Addr} {v : Value} (hc : w.cell? p = some v) : w'.cell? p = some v := by
  rw [Below.cell h (World.block_lt_of_cell? w p hc)]; exact hc

/-- What a region's writes leave: below the heap's present size all but the dirty blocks. -/
def RelD (D : Nat → Prop) (w w' : World) : Prop := w.heap.size ≤ w'.heap.size ∧ ∀ b, b < w.heap.size → ¬ D b → w'.heap[b]? = w.heap[b]?
theorem RelD.refl (D : Nat → Prop) (w : World) : RelD D w w := ⟨Nat.le_refl _, fun _ _ _ => rfl⟩
theorem RelD.trans {D : Nat → Prop} {a b c : World} (h : RelD D a b) (k : RelD D b c) : RelD D a c := ⟨Nat.le_trans h.1 k.1, fun i hi hd => (k.2 i (Nat.lt_of_lt_of_le hi h.1) hd).trans (h.2 i hi hd)⟩
theorem RelD.of_lat {D : Nat → Prop} {w w' : World} (h : Lat w w') : RelD D w w' := ⟨h.size, fun b hb _ => h.block b hb⟩
theorem RelD.cell {D : Nat → Prop} {w w' : World} (h : RelD D w w') {p : Addr} {v : Value} (hd : ¬ D p.block) (hc : w.cell? p = some v) : w'.cell? p = some v := by
  have hb := h.2 p.block (World.block_lt_of_cell? w p hc) hd
  unfold World.cell? at hc ⊢
  rw [hb]; exact hc

/-- Operations that leave the world alone and whose value does not turn in a later world. -/
def isQ : Op → Bool
  | .move _ | .assign _ | .pick .. | .binOp .. | .unOp .. | .convert .. | .fieldAddr .. | .field .. | .indexAddr .. | .load .. | .lookup .. | .extract .. | .slice .. | .makeFunc .. | .nilCheck .. => true
  | .call { callee := .builtin .len, .. } | .call { callee := .builtin .min, .. } | .call { callee := .builtin .max, .. } => true
  | _ => false
/-- Of those: the ones that look into memory. -/
def reads : Op → Bool
  | .load .. | .lookup .. => true
  | _ => false
/-- Operation j waits for i, directly or through others (n steps looked at). -/
def waits (md : Region.Mode) (ops : Array Oper) : Nat → Nat → Nat → Bool
  | 0, _, _ => false
  | n + 1, j, i => match ops[j]? with
    | none => false
    | some o => o.after.toList.any fun e => Region.binds md e && (e.on == i || waits md ops n e.on i)
/-- Some load may come up behind operation j. -/
def mayFollow (md : Region.Mode) (ops : Array Oper) (j : Nat) : Bool :=
  (List.range ops.size).any fun k => !(k == j) && (match ops[k]? with | some o => reads o.op | none => false) && !waits md ops ops.size j k
def Closed (md : Region.Mode) (ops : Array Oper) (listed : Array Bool) : Prop :=
  ∀ k o, ops[k]? = some o → listed.getD k true = true → ∀ e ∈ o.after, Region.binds md e = true → listed.getD e.on false = true

section
variable {P : Program} {ops : Array Oper} {Q : Exit → Act → World → Prop} {md : Region.Mode} {D : Nat → Prop}

def Cls (D : Nat → Prop) (o : Oper) (w w' : World) : Prop := reads o.op = true → RelD D w w'

/-- Whatever order is picked from here on; the world behind each operation is a later one as long as a load is to come. -/
def wpAnyL (D : Nat → Prop) (P : Program) (md : Region.Mode) (ops : Array Oper) (Q : Exit → Act → World → Prop) : Nat → Array Bool → Act → World → Prop
  | 0, listed, a, w => Region.ready md ops listed = [] ∧ Q .normal a w
  | fuel + 1, listed, a, w =>
    (Region.ready md ops listed = [] → Q .normal a w) ∧
    ∀ i ∈ Region.ready md ops listed, wpOp P ops Q i (fun a' w' => (mayFollow md ops i = true → RelD D w w') ∧ wpAnyL D P md ops Q fuel (listed.setIfInBounds i true) a' w') a w
theorem wpAny_of_L : ∀ (fuel : Nat) (listed : Array Bool) (a : Act) (w : World), wpAnyL D P md ops Q fuel listed a w → wpAny P md ops Q fuel listed a w
  | 0, _, _, _, h => h
  | fuel + 1, _, _, _, h => ⟨h.1, fun i hi => wpOp_mono (fun a' w' h' => wpAny_of_L fuel _ a' w' h'.2) (h.2 i hi)⟩

theorem getD_true_of_false {listed : Array Bool} {k : Nat} (h : listed.getD k false = true) : listed.getD k true = true := by
  rcases Nat.lt_or_ge k listed.size with h' | h'
  · simpa [h'] using h
  · simp [Array.getElem?_eq_none h'] at h
theorem closed_waits {listed : Array Bool} (hc : Closed md ops listed) {i : Nat} : ∀ (n j : Nat), listed.getD j false = true → waits md ops n j i = true → listed.getD i false = true
  | 0, _, _, h => by simp [waits] at h
  | n + 1, j, hj, h => by
    unfold waits at h
    cases ho : ops[j]? with
    | none => simp [ho] at h
    | some o =>
      simp only [ho, List.any_eq_true, Array.mem_toList_iff, Bool.and_eq_true, Bool.or_eq_true, beq_iff_eq] at h
      obtain ⟨e, he, hb, h⟩ := h
      have hl := hc j o ho (getD_true_of_false hj) e he hb
      rcases h with h | h
      · rw [← h]; exact hl
      · exact closed_waits hc n _ hl h
theorem closed_ready {listed : Array Bool} (hc : Closed md ops listed) {i j : Nat} (hj : j ∈ Region.ready md ops listed) (n : Nat) (h : waits md ops n j i = true) : listed.getD i false = true := by
  obtain ⟨_, o, ho, hall⟩ := mem_ready.1 hj
  cases n with
  | zero => simp [waits] at h
  | succ n =>
    unfold waits at h
    simp only [ho, List.any_eq_true, Array.mem_toList_iff, Bool.and_eq_true, Bool.or_eq_true, beq_iff_eq] at h
    obtain ⟨e, he, hb, h⟩ := h
    have hl := hall e he hb
    rcases h with h | h
    · rw [← h]; exact hl
    · exact closed_waits hc n _ hl h
theorem Closed.step {listed : Array Bool} (hc : Closed md ops listed) {j : Nat} (hj : j ∈ Region.ready md ops listed) : Closed md ops (listed.setIfInBounds j true) := by
  intro k o ho hk e he hb
  obtain ⟨_, oj, hoj, hall⟩ := mem_ready.1 hj
  by_cases hjk : j = k
  · subst hjk
    rw [hoj] at ho
    cases ho
    exact getD_set_true (hall e he hb)
  · rw [getD_set_ne true hjk] at hk
    exact getD_set_true (hc k o ho hk e he hb)
theorem closed_start : Closed md ops (Array.replicate ops.size false) := by
  intro k o ho hk
  have hlt := (Array.getElem?_eq_some_iff.1 ho).1
  simp [hlt] at hk
theorem lat_of_load {listed : Array Bool} (hc : Closed md ops listed) {i j : Nat} {oi : Oper} (hi : ops[i]? = some oi) (hun : listed.getD i true = false) (hj : j ∈ Region.ready md ops listed) (hji : j ≠ i)
    (hr : reads oi.op = true) : mayFollow md ops j = true := by
  unfold mayFollow
  rw [List.any_eq_true]
  refine ⟨i, List.mem_range.2 (Array.getElem?_eq_some_iff.1 hi).1, ?_⟩
  have hh : waits md ops ops.size j i = false := by
    cases h : waits md ops ops.size j i with
    | false => rfl
    | true =>
      have := getD_true_of_false (closed_ready hc hj _ h)
      rw [hun] at this
      cases this
  simp [hi, hr, hh, Ne.symm hji]

theorem wpAnyL_first {i : Nat} {oi : Oper} {v : Value} (hi : ops[i]? = some oi) (hsel : ∀ (j : Nat) (o : Oper) cs b, ops[j]? = some o → o.op ≠ .select cs b)
    (hQ : ∀ c a w, Q (.panic c) (a.put oi.dst v) w → Q (.panic c) a w) :
    ∀ (fuel : Nat) (listed : Array Bool) (a : Act) (w : World),
      (∀ j oj, ops[j]? = some oj → j ≠ i → listed.getD j true = false → (∀ e ∈ oj.after, Region.binds md e = true → e.on ≠ i) → oi.apart ops oj = true) →
      Closed md ops listed → i ∈ Region.ready md ops listed → YieldsIf P ops (Cls D oi w) oi v a →
      wpAnyL D P md ops Q fuel (listed.setIfInBounds i true) (a.put oi.dst v) w → wpAnyL D P md ops Q (fuel + 1) listed a w := by
  intro fuel
  induction fuel with
  | zero =>
    intro listed a w _ hcl hr hy H
    refine ⟨fun h => (by rw [h] at hr; cases hr), fun j hj => ?_⟩
    by_cases hji : j = i
    · subst hji; exact hy.wpOp hi (fun _ => RelD.refl D w) ⟨fun _ => RelD.refl D w, H⟩
    · have := ready_mono hj hji
      rw [H.1] at this
      cases this
  | succ fuel ih =>
    intro listed a w hfree hcl hr hy H
    refine ⟨fun h => (by rw [h] at hr; cases hr), fun j hj => ?_⟩
    by_cases hji : j = i
    · subst hji; exact hy.wpOp hi (fun _ => RelD.refl D w) ⟨fun _ => RelD.refl D w, H⟩
    · have h1 := H.2 j (ready_mono hj hji)
      obtain ⟨hjun, oj, hoj, hall⟩ := mem_ready.1 hj
      have hnot : ∀ e ∈ oj.after, Region.binds md e = true → e.on ≠ i := fun e he hb heq => by
        have h1 := hall e he hb
        have h0 := (mem_ready.1 hr).1
        rw [heq] at h1
        rcases Nat.lt_or_ge i listed.size with h' | h'
        · simp [h'] at h0 h1; rw [h0] at h1; cases h1
        · simp [Array.getElem?_eq_none h'] at h1
      have h2 := wpOp_putIf hoj (hfree j oj hoj hji hjun hnot) (fun cs b => hsel i oi cs b hi) (fun cs b => hsel j oj cs b hoj) hQ hy h1
      have hfree' : ∀ k ok, ops[k]? = some ok → k ≠ i → (listed.setIfInBounds j true).getD k true = false →
          (∀ e ∈ ok.after, Region.binds md e = true → e.on ≠ i) → oi.apart ops ok = true := fun k ok hk hki hun hno => by
        refine hfree k ok hk hki ?_ hno
        by_cases hjk : j = k
        · subst hjk; exact hjun
        · rw [getD_set_ne true hjk] at hun; exact hun
      have hiun : listed.getD i true = false := (mem_ready.1 hr).1
      refine wpOp_mono (fun a' w' h3 => ?_) h2
      obtain ⟨hy', hL, H'⟩ := h3
      refine ⟨hL, ih (listed.setIfInBounds j true) a' w' hfree' (hcl.step hj) (ready_mono hr (Ne.symm hji)) ?_ ?_⟩
      · refine hy'.imp (fun ⟨hw, hv⟩ => ⟨hw, fun w'' hw'' => hv w'' fun hrd => ?_⟩) id
        exact (hL (lat_of_load hcl hi hiun hj hji hrd)).trans (hw'' hrd)
      · rw [Array.setIfInBounds_comm _ _ hji]
        exact H'

/-! ### One chosen order -/
/-- The order 'l' of operations (numbers) serves: what is of the quiet kind may be taken first there; what is not is then the only one that may come up. -/
def permOK (md : Region.Mode) (ops : Array Oper) : List Nat → Array Bool → Bool
  | [], listed => (Region.ready md ops listed).isEmpty
  | i :: l, listed => match ops[i]? with
    | none => false
    | some o => (if isQ o.op then (Region.ready md ops listed).contains i && Region.free md ops listed i else Region.ready md ops listed == [i]) && permOK md ops l (listed.setIfInBounds i true)
def orderOK (ops : Array Oper) (l : List Nat) : Bool := Region.noSelect ops && l.length == ops.size && permOK .any ops l (Array.replicate ops.size false)

/-- The walk in the chosen order, of operations written out; the Bool beside each: a load may still come up behind it. -/
def LexL (D : Nat → Prop) (P : Program) (ops : Array Oper) (Q : Act → World → Prop) : List (Oper × Bool) → Act → World → Prop
  | [], a, w => Q a w
  | (o, nr) :: rest, a, w =>
    if isQ o.op then ∃ v, YieldsIf P ops (Cls D o w) o v a ∧ LexL D P ops Q rest (a.put o.dst v) w
    else if Region.wanted o (yielded ops a.tmps) then o.wp P a w (fun a' w' => (nr = true → RelD D w w') ∧ LexL D P ops Q rest a' w') (fun _ _ _ => False)
    else LexL D P ops Q rest (a.put o.dst undef) w

def sched (dr : Bool) (ops : Array Oper) : List Nat → List (Oper × Bool)
  | [] => []
  | i :: l => match ops[i]? with
    | none => sched dr ops l
    | some o => (o, dr && mayFollow .any ops i) :: sched dr ops l

theorem upon_exits {o : Oper} {a : Act} {K : Act → World → Prop} {w : World} (Q : Exit → Act → World → Prop) (h : o.wp P a w K (fun _ _ _ => False)) : o.wp P a w K Q := by
  unfold Oper.wp at *
  generalize (execOp a.eval o).run P w = r at *
  cases r with
  | ok n w' =>
    cases n <;> simp only [Oper.upon] at h ⊢ <;> first | exact h | skip
    case enter f args =>
      refine Calls.mono h fun e w'' he => ?_
      cases e with
      | returned u => exact he
      | panicked c => exact he.elim
      | outgrown => obtain ⟨_, _, he⟩ := he; exact he.elim
  | halt x w' =>
    cases x <;> simp only [Oper.upon] at h ⊢

theorem any_of_lex (hs : Region.noSelect ops = true) (hQ : ∀ c a w d v, Q (.panic c) (Act.put a d v) w → Q (.panic c) a w) : ∀ (l : List Nat) (listed : Array Bool) (a : Act) (w : World), Closed .any ops listed → permOK .any ops l listed = true →
    LexL D P ops (fun a w => Q .normal a w) (sched true ops l) a w → wpAnyL D P .any ops Q l.length listed a w
  | [], listed, a, w, _, hp, h => ⟨by simpa [permOK] using hp, h⟩
  | i :: l, listed, a, w, hcl, hp, h => by
    unfold permOK at hp
    cases ho : ops[i]? with
    | none => simp [ho] at hp
    | some o =>
      simp only [ho, Bool.and_eq_true] at hp
      obtain ⟨hp1, hp2⟩ := hp
      simp only [sched, ho, Bool.true_and] at h
      unfold LexL at h
      by_cases hq : isQ o.op = true
      · simp only [hq, if_true, Bool.and_eq_true] at h hp1
        obtain ⟨v, hy, h⟩ := h
        have hr : i ∈ Region.ready .any ops listed := by simpa using hp1.1
        exact wpAnyL_first ho (Region.noSelect_spec hs) (fun c a w => hQ c a w _ _) l.length listed a w (Region.free_spec ho hp1.2) hcl hr hy (any_of_lex hs hQ l _ _ _ (hcl.step hr) hp2 h)
      · simp only [hq, Bool.false_eq_true, if_false, beq_iff_eq] at h hp1
        have hr : i ∈ Region.ready .any ops listed := by rw [hp1]; simp
        refine ⟨fun h0 => (by rw [h0] at hp1; cases hp1), fun j hj => ?_⟩
        rw [hp1, List.mem_singleton] at hj
        subst hj
        unfold wpOp
        simp only [ho]
        by_cases hw : Region.wanted o (yielded ops a.tmps) = true
        · simp only [hw, if_true] at h ⊢
          exact .inl (upon_exits Q (Oper.wp_mono (fun a' w' ⟨h1, h2⟩ => ⟨h1, any_of_lex hs hQ l _ _ _ (hcl.step hr) hp2 h2⟩) h))
        · simp only [hw] at h ⊢
          exact ⟨fun _ => RelD.refl D w, any_of_lex hs hQ l _ _ _ (hcl.step hr) hp2 h⟩

/-- A region that draws. -/
theorem wp_region_lex {id : Nat} {Q : Act → World → Prop} {Q' : Exit → Act → World → Prop} {a : Act} {w : World} (l : List Nat) (hm : P.follows .mixedOrders = true) (hl : orderOK ops l = true)
    (hQ : ∀ a w, Q a w → Q' .normal a w) (h : LexL D P ops Q (sched true ops l) a { w with drawn := w.drawn + 1 }) : (Code.region id ops true).wp P Q' a w := by
  simp only [orderOK, Bool.and_eq_true, beq_iff_eq] at hl
  obtain ⟨⟨h1, h2⟩, h3⟩ := hl
  let Q1 : Exit → Act → World → Prop := fun e a w => e = .normal ∧ Q a w
  have hh : LexL D P ops (fun a w => Q1 .normal a w) (sched true ops l) a { w with drawn := w.drawn + 1 } := by
    have e : (fun a w => Q1 .normal a w) = Q := by funext a w; simp [Q1]
    rw [e]; exact h
  have := any_of_lex (Q := Q1) h1 (fun c a w d v hc => by cases hc.1) l _ _ _ closed_start h3 hh
  rw [h2] at this
  exact Code.wp_mono (Q := Q1) (fun e a w ⟨he, hq⟩ => by subst he; exact hQ a w hq) (wp_region_any hm (wpAny_of_L _ _ _ _ this))

theorem ops_of_lex {Q : Act → World → Prop} : ∀ (l : List Nat) (a : Act) (w : World), (∀ i ∈ l, i < ops.size) → LexL D P ops Q (sched false ops l) a w → wpOps P ops (fun e a w => e = .normal ∧ Q a w) l a w
  | [], _, _, _, h => ⟨rfl, h⟩
  | i :: l, a, w, hb, h => by
    have hlt := hb i (by simp)
    have ho : ops[i]? = some ops[i] := Array.getElem?_eq_getElem hlt
    have hb' : ∀ j ∈ l, j < ops.size := fun j hj => hb j (by simp [hj])
    simp only [sched, ho, Bool.false_and] at h
    unfold LexL at h
    rw [wpOps_cons]
    by_cases hq : isQ ops[i].op = true
    · simp only [hq, if_true] at h
      obtain ⟨v, hy, h⟩ := h
      exact hy.wpOp ho (fun _ => RelD.refl D w) (ops_of_lex l _ _ hb' h)
    · simp only [hq, Bool.false_eq_true, if_false] at h
      unfold wpOp
      simp only [ho]
      by_cases hw : Region.wanted ops[i] (yielded ops a.tmps) = true
      · simp only [hw, if_true] at h ⊢
        exact .inl (upon_exits _ (Oper.wp_mono (fun a' w' ⟨_, h2⟩ => ops_of_lex l _ _ hb' h2) h))
      · simp only [hw] at h ⊢
        exact ops_of_lex l _ _ hb' h
/-- A region that does not draw. -/
theorem wp_region_text {id : Nat} {Q : Act → World → Prop} {Q' : Exit → Act → World → Prop} {a : Act} {w : World}
    (hQ : ∀ a w, Q a w → Q' .normal a w) (h : LexL D P ops Q (sched false ops (List.range ops.size)) a w) : (Code.region id ops false).wp P Q' a w :=
  Code.wp_mono (fun e a w ⟨he, hq⟩ => by subst he; exact hQ a w hq) (wp_region (ops_of_lex _ a w (fun i hi => List.mem_range.1 hi) h))
end
end Go.Pu
