/-
  Own work: parts PuA, PuB, PuC, PuD, PuE, PuF, PuG, PuH, PuI, PuJ, PuK, PuL of my verified compiler.
-/
import Derived.OrdersHeld
import Derived.Below
import Derived.WalkKit
/-
  Own work. A region that draws its order: ONE walk in one chosen order serves every order, where the operations that change the world wait for one another, and where behind each of them what was there before still stands as long as a load is still to come.
-/
namespace Go.Pu
open Go Go.RowKit

/-- The later world: of what was there nothing has turned. -/
def Lat (w w' : World) : Prop := Below w.heap.size w w'
theorem Lat.refl (w : World) : Lat w w := Below.refl _ _
theorem Lat.trans {a b c : World} (h : Lat a b) (k : Lat b c) : Lat a c := Below.trans h (k.mono h.size)
theorem Lat.drew (w : World) : Lat w { w with drawn := w.drawn + 1 } := (Below.refl w.heap.size w).drew
theorem Lat.cell {w w' : World} (h : Lat w w') {p : Addr} {v : Value} (hc : w.cell? p = some v) : w'.cell? p = some v := by
  rw [Below.cell h (World.block_lt_of_cell? w p hc)]; exact hc

/-- What a region's writes leave: below the heap's present size all but the dirty blocks. -/
def RelD (D : Nat → Prop) (w w' : World) : Prop := w.heap.size ≤ w'.heap.size ∧ ∀ b, b < w.heap.size → ¬ D b → w'.heap[b]? = w.heap[b]?
theorem RelD.refl (D : Nat → Prop) (w : World) : RelD D w w := ⟨Nat.le_refl _, fun _ _ _ => rfl⟩
theorem RelD.trans {D : Nat → Prop} {a b c : World} (h : RelD D a b) (k : RelD D b c) : RelD D a c := ⟨Nat.le_trans h.1 k.1, fun i hi hd => (k.2 i (Nat.lt_of_lt_of_le hi h.1) hd).trans (h.2 i hi hd)⟩
theorem RelD.of_lat {D : Nat → Prop} {w w' : World} (h : Lat w w') : RelD D w w' := ⟨h.size, fun b hb _ => h.block b hb⟩
theorem RelD.cell {D : Nat → Prop} {w w' : World} (h : RelD D w w') {p : Addr} {v : Value} (hd : ¬ D p.block) (hc : w.cell? p = some v) : w'.cell? p = some v := by
  have hb := h.2 p.block (World.block_lt_of_cell? w p hc) hd
  unfold World.cell? at hc ⊢
  rw [hb]; exact hc

/-- Operations that leave the world alone and whose value does not turn in a later world. -/
def isQ : Op → Bool
  | .move _ | .assign _ | .pick .. | .binOp .. | .unOp .. | .convert .. | .fieldAddr .. | .field .. | .indexAddr .. | .load .. | .lookup .. | .extract .. | .slice .. | .makeFunc .. | .nilCheck .. => true
  | .call { callee := .builtin .len, .. } | .call { callee := .builtin .min, .. } | .call { callee := .builtin .max, .. } => true
  | _ => false
/-- Of those: the ones that look into memory. -/
def reads : Op → Bool
  | .load .. | .lookup .. => true
  | _ => false
/-- Operation j waits for i, directly or through others (n steps looked at). -/
def waits (md : Region.Mode) (ops : Array Oper) : Nat → Nat → Nat → Bool
  | 0, _, _ => false
  | n + 1, j, i => match ops[j]? with
    | none => false
    | some o => o.after.toList.any fun e => Region.binds md e && (e.on == i || waits md ops n e.on i)
/-- Some load may come up behind operation j. -/
def mayFollow (md : Region.Mode) (ops : Array Oper) (j : Nat) : Bool :=
  (List.range ops.size).any fun k => !(k == j) && (match ops[k]? with | some o => reads o.op | none => false) && !waits md ops ops.size j k
def Closed (md : Region.Mode) (ops : Array Oper) (listed : Array Bool) : Prop :=
  ∀ k o, ops[k]? = some o → listed.getD k true = true → ∀ e ∈ o.after, Region.binds md e = true → listed.getD e.on false = true

section
variable {P : Program} {ops : Array Oper} {Q : Exit → Act → World → Prop} {md : Region.Mode} {D : Nat → Prop}

def Cls (D : Nat → Prop) (o : Oper) (w w' : World) : Prop := reads o.op = true → RelD D w w'

/-- Whatever order is picked from here on; the world behind each operation is a later one as long as a load is to come. -/
def wpAnyL (D : Nat → Prop) (P : Program) (md : Region.Mode) (ops : Array Oper) (Q : Exit → Act → World → Prop) : Nat → Array Bool → Act → World → Prop
  | 0, listed, a, w => Region.ready md ops listed = [] ∧ Q .normal a w
  | fuel + 1, listed, a, w =>
    (Region.ready md ops listed = [] → Q .normal a w) ∧
    ∀ i ∈ Region.ready md ops listed, wpOp P ops Q i (fun a' w' => (mayFollow md ops i = true → RelD D w w') ∧ wpAnyL D P md ops Q fuel (listed.setIfInBounds i true) a' w') a w
theorem wpAny_of_L : ∀ (fuel : Nat) (listed : Array Bool) (a : Act) (w : World), wpAnyL D P md ops Q fuel listed a w → wpAny P md ops Q fuel listed a w
  | 0, _, _, _, h => h
  | fuel + 1, _, _, _, h => ⟨h.1, fun i hi => wpOp_mono (fun a' w' h' => wpAny_of_L fuel _ a' w' h'.2) (h.2 i hi)⟩

theorem getD_true_of_false {listed : Array Bool} {k : Nat} (h : listed.getD k false = true) : listed.getD k true = true := by
  rcases Nat.lt_or_ge k listed.size with h' | h'
  · simpa [h'] using h
  · simp [Array.getElem?_eq_none h'] at h
theorem closed_waits {listed : Array Bool} (hc : Closed md ops listed) {i : Nat} : ∀ (n j : Nat), listed.getD j false = true → waits md ops n j i = true → listed.getD i false = true
  | 0, _, _, h => by simp [waits] at h
  | n + 1, j, hj, h => by
    unfold waits at h
    cases ho : ops[j]? with
    | none => simp [ho] at h
    | some o =>
      simp only [ho, List.any_eq_true, Array.mem_toList_iff, Bool.and_eq_true, Bool.or_eq_true, beq_iff_eq] at h
      obtain ⟨e, he, hb, h⟩ := h
      have hl := hc j o ho (getD_true_of_false hj) e he hb
      rcases h with h | h
      · rw [← h]; exact hl
      · exact closed_waits hc n _ hl h
theorem closed_ready {listed : Array Bool} (hc : Closed md ops listed) {i j : Nat} (hj : j ∈ Region.ready md ops listed) (n : Nat) (h : waits md ops n j i = true) : listed.getD i false = true := by
  obtain ⟨_, o, ho, hall⟩ := mem_ready.1 hj
  cases n with
  | zero => simp [waits] at h
  | succ n =>
    unfold waits at h
    simp only [ho, List.any_eq_true, Array.mem_toList_iff, Bool.and_eq_true, Bool.or_eq_true, beq_iff_eq] at h
    obtain ⟨e, he, hb, h⟩ := h
    have hl := hall e he hb
    rcases h with h | h
    · rw [← h]; exact hl
    · exact closed_waits hc n _ hl h
theorem Closed.step {listed : Array Bool} (hc : Closed md ops listed) {j : Nat} (hj : j ∈ Region.ready md ops listed) : Closed md ops (listed.setIfInBounds j true) := by
  intro k o ho hk e he hb
  obtain ⟨_, oj, hoj, hall⟩ := mem_ready.1 hj
  by_cases hjk : j = k
  · subst hjk
    rw [hoj] at ho
    cases ho
    exact getD_set_true (hall e he hb)
  · rw [getD_set_ne true hjk] at hk
    exact getD_set_true (hc k o ho hk e he hb)
theorem closed_start : Closed md ops (Array.replicate ops.size false) := by
  intro k o ho hk
  have hlt := (Array.getElem?_eq_some_iff.1 ho).1
  simp [hlt] at hk
theorem lat_of_load {listed : Array Bool} (hc : Closed md ops listed) {i j : Nat} {oi : Oper} (hi : ops[i]? = some oi) (hun : listed.getD i true = false) (hj : j ∈ Region.ready md ops listed) (hji : j ≠ i)
    (hr : reads oi.op = true) : mayFollow md ops j = true := by
  unfold mayFollow
  rw [List.any_eq_true]
  refine ⟨i, List.mem_range.2 (Array.getElem?_eq_some_iff.1 hi).1, ?_⟩
  have hh : waits md ops ops.size j i = false := by
    cases h : waits md ops ops.size j i with
    | false => rfl
    | true =>
      have := getD_true_of_false (closed_ready hc hj _ h)
      rw [hun] at this
      cases this
  simp [hi, hr, hh, Ne.symm hji]

theorem wpAnyL_first {i : Nat} {oi : Oper} {v : Value} (hi : ops[i]? = some oi) (hsel : ∀ (j : Nat) (o : Oper) cs b, ops[j]? = some o → o.op ≠ .select cs b)
    (hQ : ∀ c a w, Q (.panic c) (a.put oi.dst v) w → Q (.panic c) a w) :
    ∀ (fuel : Nat) (listed : Array Bool) (a : Act) (w : World),
      (∀ j oj, ops[j]? = some oj → j ≠ i → listed.getD j true = false → (∀ e ∈ oj.after, Region.binds md e = true → e.on ≠ i) → oi.apart ops oj = true) →
      Closed md ops listed → i ∈ Region.ready md ops listed → YieldsIf P ops (Cls D oi w) oi v a →
      wpAnyL D P md ops Q fuel (listed.setIfInBounds i true) (a.put oi.dst v) w → wpAnyL D P md ops Q (fuel + 1) listed a w := by
  intro fuel
  induction fuel with
  | zero =>
    intro listed a w _ hcl hr hy H
    refine ⟨fun h => (by rw [h] at hr; cases hr), fun j hj => ?_⟩
    by_cases hji : j = i
    · subst hji; exact hy.wpOp hi (fun _ => RelD.refl D w) ⟨fun _ => RelD.refl D w, H⟩
    · have := ready_mono hj hji
      rw [H.1] at this
      cases this
  | succ fuel ih =>
    intro listed a w hfree hcl hr hy H
    refine ⟨fun h => (by rw [h] at hr; cases hr), fun j hj => ?_⟩
    by_cases hji : j = i
    · subst hji; exact hy.wpOp hi (fun _ => RelD.refl D w) ⟨fun _ => RelD.refl D w, H⟩
    · have h1 := H.2 j (ready_mono hj hji)
      obtain ⟨hjun, oj, hoj, hall⟩ := mem_ready.1 hj
      have hnot : ∀ e ∈ oj.after, Region.binds md e = true → e.on ≠ i := fun e he hb heq => by
        have h1 := hall e he hb
        have h0 := (mem_ready.1 hr).1
        rw [heq] at h1
        rcases Nat.lt_or_ge i listed.size with h' | h'
        · simp [h'] at h0 h1; rw [h0] at h1; cases h1
        · simp [Array.getElem?_eq_none h'] at h1
      have h2 := wpOp_putIf hoj (hfree j oj hoj hji hjun hnot) (fun cs b => hsel i oi cs b hi) (fun cs b => hsel j oj cs b hoj) hQ hy h1
      have hfree' : ∀ k ok, ops[k]? = some ok → k ≠ i → (listed.setIfInBounds j true).getD k true = false →
          (∀ e ∈ ok.after, Region.binds md e = true → e.on ≠ i) → oi.apart ops ok = true := fun k ok hk hki hun hno => by
        refine hfree k ok hk hki ?_ hno
        by_cases hjk : j = k
        · subst hjk; exact hjun
        · rw [getD_set_ne true hjk] at hun; exact hun
      have hiun : listed.getD i true = false := (mem_ready.1 hr).1
      refine wpOp_mono (fun a' w' h3 => ?_) h2
      obtain ⟨hy', hL, H'⟩ := h3
      refine ⟨hL, ih (listed.setIfInBounds j true) a' w' hfree' (hcl.step hj) (ready_mono hr (Ne.symm hji)) ?_ ?_⟩
      · refine hy'.imp (fun ⟨hw, hv⟩ => ⟨hw, fun w'' hw'' => hv w'' fun hrd => ?_⟩) id
        exact (hL (lat_of_load hcl hi hiun hj hji hrd)).trans (hw'' hrd)
      · rw [Array.setIfInBounds_comm _ _ hji]
        exact H'

/-! ### One chosen order -/
/-- The order 'l' of operations (numbers) serves: what is of the quiet kind may be taken first there; what is not is then the only one that may come up. -/
def permOK (md : Region.Mode) (ops : Array Oper) : List Nat → Array Bool → Bool
  | [], listed => (Region.ready md ops listed).isEmpty
  | i :: l, listed => match ops[i]? with
    | none => false
    | some o => (if isQ o.op then (Region.ready md ops listed).contains i && Region.free md ops listed i else Region.ready md ops listed == [i]) && permOK md ops l (listed.setIfInBounds i true)
def orderOK (ops : Array Oper) (l : List Nat) : Bool := Region.noSelect ops && l.length == ops.size && permOK .any ops l (Array.replicate ops.size false)

/-- The walk in the chosen order, of operations written out; the Bool beside each: a load may still come up behind it. -/
def LexL (D : Nat → Prop) (P : Program) (ops : Array Oper) (Q : Act → World → Prop) : List (Oper × Bool) → Act → World → Prop
  | [], a, w => Q a w
  | (o, nr) :: rest, a, w =>
    if isQ o.op then ∃ v, YieldsIf P ops (Cls D o w) o v a ∧ LexL D P ops Q rest (a.put o.dst v) w
    else if Region.wanted o (yielded ops a.tmps) then o.wp P a w (fun a' w' => (nr = true → RelD D w w') ∧ LexL D P ops Q rest a' w') (fun _ _ _ => False)
    else LexL D P ops Q rest (a.put o.dst undef) w

def sched (dr : Bool) (ops : Array Oper) : List Nat → List (Oper × Bool)
  | [] => []
  | i :: l => match ops[i]? with
    | none => sched dr ops l
    | some o => (o, dr && mayFollow .any ops i) :: sched dr ops l

theorem upon_exits {o : Oper} {a : Act} {K : Act → World → Prop} {w : World} (Q : Exit → Act → World → Prop) (h : o.wp P a w K (fun _ _ _ => False)) : o.wp P a w K Q := by
  unfold Oper.wp at *
  generalize (execOp a.eval o).run P w = r at *
  cases r with
  | ok n w' =>
    cases n <;> simp only [Oper.upon] at h ⊢ <;> first | exact h | skip
    case enter f args =>
      refine Calls.mono h fun e w'' he => ?_
      cases e with
      | returned u => exact he
      | panicked c => exact he.elim
      | outgrown => obtain ⟨_, _, he⟩ := he; exact he.elim
  | halt x w' =>
    cases x <;> simp only [Oper.upon] at h ⊢

theorem any_of_lex (hs : Region.noSelect ops = true) (hQ : ∀ c a w d v, Q (.panic c) (Act.put a d v) w → Q (.panic c) a w) : ∀ (l : List Nat) (listed : Array Bool) (a : Act) (w : World), Closed .any ops listed → permOK .any ops l listed = true →
    LexL D P ops (fun a w => Q .normal a w) (sched true ops l) a w → wpAnyL D P .any ops Q l.length listed a w
  | [], listed, a, w, _, hp, h => ⟨by simpa [permOK] using hp, h⟩
  | i :: l, listed, a, w, hcl, hp, h => by
    unfold permOK at hp
    cases ho : ops[i]? with
    | none => simp [ho] at hp
    | some o =>
      simp only [ho, Bool.and_eq_true] at hp
      obtain ⟨hp1, hp2⟩ := hp
      simp only [sched, ho, Bool.true_and] at h
      unfold LexL at h
      by_cases hq : isQ o.op = true
      · simp only [hq, if_true, Bool.and_eq_true] at h hp1
        obtain ⟨v, hy, h⟩ := h
        have hr : i ∈ Region.ready .any ops listed := by simpa using hp1.1
        exact wpAnyL_first ho (Region.noSelect_spec hs) (fun c a w => hQ c a w _ _) l.length listed a w (Region.free_spec ho hp1.2) hcl hr hy (any_of_lex hs hQ l _ _ _ (hcl.step hr) hp2 h)
      · simp only [hq, Bool.false_eq_true, if_false, beq_iff_eq] at h hp1
        have hr : i ∈ Region.ready .any ops listed := by rw [hp1]; simp
        refine ⟨fun h0 => (by rw [h0] at hp1; cases hp1), fun j hj => ?_⟩
        rw [hp1, List.mem_singleton] at hj
        subst hj
        unfold wpOp
        simp only [ho]
        by_cases hw : Region.wanted o (yielded ops a.tmps) = true
        · simp only [hw, if_true] at h ⊢
          exact .inl (upon_exits Q (Oper.wp_mono (fun a' w' ⟨h1, h2⟩ => ⟨h1, any_of_lex hs hQ l _ _ _ (hcl.step hr) hp2 h2⟩) h))
        · simp only [hw] at h ⊢
          exact ⟨fun _ => RelD.refl D w, any_of_lex hs hQ l _ _ _ (hcl.step hr) hp2 h⟩

/-- A region that draws. -/
theorem wp_region_lex {id : Nat} {Q : Act → World → Prop} {Q' : Exit → Act → World → Prop} {a : Act} {w : World} (l : List Nat) (hm : P.follows .mixedOrders = true) (hl : orderOK ops l = true)
    (hQ : ∀ a w, Q a w → Q' .normal a w) (h : LexL D P ops Q (sched true ops l) a { w with drawn := w.drawn + 1 }) : (Code.region id ops true).wp P Q' a w := by
  simp only [orderOK, Bool.and_eq_true, beq_iff_eq] at hl
  obtain ⟨⟨h1, h2⟩, h3⟩ := hl
  let Q1 : Exit → Act → World → Prop := fun e a w => e = .normal ∧ Q a w
  have hh : LexL D P ops (fun a w => Q1 .normal a w) (sched true ops l) a { w with drawn := w.drawn + 1 } := by
    have e : (fun a w => Q1 .normal a w) = Q := by funext a w; simp [Q1]
    rw [e]; exact h
  have := any_of_lex (Q := Q1) h1 (fun c a w d v hc => by cases hc.1) l _ _ _ closed_start h3 hh
  rw [h2] at this
  exact Code.wp_mono (Q := Q1) (fun e a w ⟨he, hq⟩ => by subst he; exact hQ a w hq) (wp_region_any hm (wpAny_of_L _ _ _ _ this))

theorem ops_of_lex {Q : Act → World → Prop} : ∀ (l : List Nat) (a : Act) (w : World), (∀ i ∈ l, i < ops.size) → LexL D P ops Q (sched false ops l) a w → wpOps P ops (fun e a w => e = .normal ∧ Q a w) l a w
  | [], _, _, _, h => ⟨rfl, h⟩
  | i :: l, a, w, hb, h => by
    have hlt := hb i (by simp)
    have ho : ops[i]? = some ops[i] := Array.getElem?_eq_getElem hlt
    have hb' : ∀ j ∈ l, j < ops.size := fun j hj => hb j (by simp [hj])
    simp only [sched, ho, Bool.false_and] at h
    unfold LexL at h
    rw [wpOps_cons]
    by_cases hq : isQ ops[i].op = true
    · simp only [hq, if_true] at h
      obtain ⟨v, hy, h⟩ := h
      exact hy.wpOp ho (fun _ => RelD.refl D w) (ops_of_lex l _ _ hb' h)
    · simp only [hq, Bool.false_eq_true, if_false] at h
      unfold wpOp
      simp only [ho]
      by_cases hw : Region.wanted ops[i] (yielded ops a.tmps) = true
      · simp only [hw, if_true] at h ⊢
        exact .inl (upon_exits _ (Oper.wp_mono (fun a' w' ⟨_, h2⟩ => ops_of_lex l _ _ hb' h2) h))
      · simp only [hw] at h ⊢
        exact ops_of_lex l _ _ hb' h
/-- A region that does not draw. -/
theorem wp_region_text {id : Nat} {Q : Act → World → Prop} {Q' : Exit → Act → World → Prop} {a : Act} {w : World}
    (hQ : ∀ a w, Q a w → Q' .normal a w) (h : LexL D P ops Q (sched false ops (List.range ops.size)) a w) : (Code.region id ops false).wp P Q' a w :=
  Code.wp_mono (fun e a w ⟨he, hq⟩ => by subst he; exact hQ a w hq) (wp_region (ops_of_lex _ a w (fun i hi => List.mem_range.1 hi) h))
end
end Go.Pu
/-
  Own work. Flat memory: what a slot or a cell holds, rows that the call owns (each by its place: a root and a path), regions that are only read; how they stand to the machine's memory.
-/
namespace Go.Pu
open Go Go.RowKit

abbrev Loc := Nat × List (Nat × Nat)
abbrev Rg := Option Nat
inductive C where
  | int (k : IntKind) (z : Int)
  | bool (b : Bool)
  | nil
  | ro (rg : Rg) (els : List (List C))
  | rp (rg : Rg) (cells : List C)
  | hd (l : Loc)
  | fn (f : FuncId) (caps : List C)
  | sub (l : Loc) (s lo n : Nat)
  | both (x y : C)
  | gone
structure G where
  S : Nat → Prop
  own : Nat → Option Loc
  hdr : Loc → Value
def G.reg (g : G) : Rg → Nat → Prop
  | none, b => g.S b
  | some r, b => g.S b ∨ ∃ p, g.own b = some (r, p)
def szOf (P : Program) (e : TypeId) : Nat := match P.info? e with | some i => i.size | none => 0

/-- A slice's header, resliced. -/
def subHdr (v : Value) (s lo n : Nat) : Value := match v with
  | .slice a _ cap => .slice (if cap = lo then a else a.map (·.add (lo * s))) n (cap - lo)
  | v => v
inductive CRep (w : World) (g : G) : C → Value → Prop
  | int (k : IntKind) (z : Int) : CRep w g (.int k z) (.int k z)
  | bool (b : Bool) : CRep w g (.bool b) (.bool b)
  | nil : CRep w g .nil (.slice none 0 0)
  | gone (v : Value) : CRep w g .gone v
  | ro0 (rg : Rg) (a : Option Addr) (cap : Nat) : CRep w g (.ro rg []) (.slice a 0 cap)
  | ro (rg : Rg) (els : List (List C)) (b off n cap s : Nat) (f : Nat → Nat → Value) (hn : n = els.length) (hc : n ≤ cap) (hm : cap ≤ maxLen) (hS : g.reg rg b) (hs : 0 < s)
      (hsz : ∀ (i : Nat) (cs : List C), els[i]? = some cs → cs.length = s)
      (hcell : ∀ (i : Nat) (cs : List C) (k : Nat) (x : C), els[i]? = some cs → cs[k]? = some x → w.cell? ⟨b, off + (i * s + k), none⟩ = some (f i k))
      (hrep : ∀ (i : Nat) (cs : List C) (k : Nat) (x : C), els[i]? = some cs → cs[k]? = some x → CRep w g x (f i k)) :
      CRep w g (.ro rg els) (.slice (some ⟨b, off, none⟩) n cap)
  | rp (rg : Rg) (cells : List C) (b off : Nat) (f : Nat → Value) (hS : g.reg rg b)
      (hcell : ∀ (k : Nat) (x : C), cells[k]? = some x → w.cell? ⟨b, off + k, none⟩ = some (f k))
      (hrep : ∀ (k : Nat) (x : C), cells[k]? = some x → CRep w g x (f k)) :
      CRep w g (.rp rg cells) (.pointer (some ⟨b, off, none⟩))
  | hd (l : Loc) (v : Value) (hv : v = g.hdr l) : CRep w g (.hd l) v
  | fn (f : FuncId) (caps : List C) (vs : Array Value) (hs : vs.size = caps.length) (hrep : ∀ (k : Nat) (x : C), caps[k]? = some x → CRep w g x (vs.getD k undef)) : CRep w g (.fn f caps) (.func (.func f) #[] vs)
  | sub (l : Loc) (s lo n : Nat) (v : Value) (hv : v = subHdr (g.hdr l) s lo n) : CRep w g (.sub l s lo n) v
  | both (x y : C) (v : Value) (hx : CRep w g x v) (hy : CRep w g y v) : CRep w g (.both x y) v

/-- Which places and which regions a cell speaks of. -/
inductive C.Ok (pl : Loc → Prop) (pr : Rg → Prop) : C → Prop
  | int (k : IntKind) (z : Int) : C.Ok pl pr (.int k z)
  | bool (b : Bool) : C.Ok pl pr (.bool b)
  | nil : C.Ok pl pr .nil
  | gone : C.Ok pl pr .gone
  | ro (rg : Rg) (els : List (List C)) (hr : els ≠ [] → pr rg) (h : ∀ (i : Nat) (cs : List C) (k : Nat) (x : C), els[i]? = some cs → cs[k]? = some x → C.Ok pl pr x) : C.Ok pl pr (.ro rg els)
  | rp (rg : Rg) (cells : List C) (hr : pr rg) (h : ∀ (k : Nat) (x : C), cells[k]? = some x → C.Ok pl pr x) : C.Ok pl pr (.rp rg cells)
  | hd (l : Loc) (h : pl l) : C.Ok pl pr (.hd l)
  | fn (f : FuncId) (caps : List C) (h : ∀ (k : Nat) (x : C), caps[k]? = some x → C.Ok pl pr x) : C.Ok pl pr (.fn f caps)
  | sub (l : Loc) (s lo n : Nat) (h : pl l) : C.Ok pl pr (.sub l s lo n)
  | both (x y : C) (hx : C.Ok pl pr x) (hy : C.Ok pl pr y) : C.Ok pl pr (.both x y)
theorem C.Ok.mono {pl pl' : Loc → Prop} {pr pr' : Rg → Prop} {x : C} (h : C.Ok pl pr x) (hl : ∀ l, pl l → pl' l) (hr : ∀ r, pr r → pr' r) : C.Ok pl' pr' x := by
  induction h with
  | int => exact .int _ _
  | bool => exact .bool _
  | nil => exact .nil
  | gone => exact .gone
  | ro rg els h1 _ ih => exact .ro rg els (fun h => hr _ (h1 h)) ih
  | rp rg cells h1 _ ih => exact .rp rg cells (hr _ h1) ih
  | hd l h => exact .hd l (hl l h)
  | fn f caps _ ih => exact .fn f caps ih
  | sub l s lo n h => exact .sub l s lo n (hl l h)
  | both x y _ _ ih1 ih2 => exact .both x y ih1 ih2

/-- Carried to another world and other ghosts. -/
theorem CRep.keep {w w' : World} {g g' : G} {pl : Loc → Prop} {pr : Rg → Prop} {x : C} {v : Value} (h : CRep w g x v) (hl : ∀ l, pl l → g'.hdr l = g.hdr l) (hr : ∀ rg, pr rg → ∀ b, g.reg rg b → g'.reg rg b ∧ w'.heap[b]? = w.heap[b]?) :
    C.Ok pl pr x → CRep w' g' x v := by
  induction h with
  | int k z => exact fun _ => .int k z
  | bool b => exact fun _ => .bool b
  | nil => exact fun _ => .nil
  | gone v => exact fun _ => .gone v
  | ro0 rg a cap => exact fun _ => .ro0 rg a cap
  | ro rg els b off n cap s f hn hc hm hS hs hsz hcell hrep ih =>
    intro ho
    cases ho with
    | ro _ _ h1 h2 =>
      by_cases he : els = []
      · subst he; subst hn; exact .ro0 rg _ _
      · have hb := hr rg (h1 he) b hS
        exact .ro rg els b off n cap s f hn hc hm hb.1 hs hsz (fun i cs k x q1 q2 => by rw [World.cell?_of_block (w := w) hb.2]; exact hcell i cs k x q1 q2) (fun i cs k x q1 q2 => ih i cs k x q1 q2 (h2 i cs k x q1 q2))
  | rp rg cells b off f hS hcell hrep ih =>
    intro ho
    cases ho with
    | rp _ _ h1 h2 =>
      have hb := hr rg h1 b hS
      exact .rp rg cells b off f hb.1 (fun k x q => by rw [World.cell?_of_block (w := w) hb.2]; exact hcell k x q) (fun k x q => ih k x q (h2 k x q))
  | hd l v hv =>
    intro ho
    cases ho with
    | hd _ h1 => exact .hd l v (hv.trans (hl l h1).symm)
  | fn f caps vs hs hrep ih =>
    intro ho
    cases ho with
    | fn _ _ h1 => exact .fn f caps vs hs (fun k x q => ih k x q (h1 k x q))
  | sub l s lo n v hv =>
    intro ho
    cases ho with
    | sub _ _ _ _ h1 => exact .sub l s lo n v (by rw [hl l h1]; exact hv)
  | both x y v _ _ ih1 ih2 =>
    intro ho
    cases ho with
    | both _ _ h1 h2 => exact .both x y v (ih1 h1) (ih2 h2)

inductive Row where
  | row (bx nl : Bool) (e : TypeId) (els : List (List C))
  | mp (kvs : List (Int × Bool))

def hdrOf (bx : Bool) (b base n cap : Nat) : Value := bif bx then .pointer (some ⟨b, base, none⟩) else .slice (some ⟨b, base, none⟩) n cap
structure RowFull (P : Program) (w : World) (g : G) (l : Loc) (bx nl : Bool) (e : TypeId) (els : List (List C)) (b base n cap : Nat) (cs : Array Value) (f : Nat → Nat → Value) : Prop where
  hd : g.hdr l = hdrOf bx b base n cap
  own : g.own b = some l
  heap : w.heap[b]? = some (.cells cs e (0, 0))
  len : n = els.length
  hcap : n ≤ cap
  hmax : cap ≤ maxLen
  fit : base + cap * szOf P e = cs.size
  pos : 0 < szOf P e
  size : ∀ (i : Nat) (c : List C), els[i]? = some c → c.length = szOf P e
  cell : ∀ (i : Nat) (c : List C) (k : Nat) (x : C), els[i]? = some c → c[k]? = some x → cs[base + (i * szOf P e + k)]? = some (f i k)
  rep : ∀ (i : Nat) (c : List C) (k : Nat) (x : C), els[i]? = some c → c[k]? = some x → CRep w g x (f i k)
  nonil : nl = true → els ≠ []
inductive RowRep (P : Program) (w : World) (g : G) (l : Loc) : Row → Prop
  | nil (nl : Bool) (e : TypeId) (hd : g.hdr l = .slice none 0 0) : RowRep P w g l (.row false nl e [])
  | zero (e : TypeId) (a : Addr) (hd : g.hdr l = .slice (some a) 0 0) : RowRep P w g l (.row false false e [])
  | full (bx nl : Bool) (e : TypeId) (els : List (List C)) (b base n cap : Nat) (cs : Array Value) (f : Nat → Nat → Value) (h : RowFull P w g l bx nl e els b base n cap cs f) : RowRep P w g l (.row bx nl e els)
  | mp (kvs : List (Int × Bool)) (b clk : Nat) (es : Array MapEntry) (hd : g.hdr l = .map (some b)) (own : g.own b = some l) (heap : w.heap[b]? = some (.map es clk))
      (hes : es.toList.map (fun e => (e.key, e.val)) = kvs.map (fun kv => (Value.int .i64 kv.1, Value.bool kv.2))) : RowRep P w g l (.mp kvs)
def Row.Ok (pl : Loc → Prop) (pr : Rg → Prop) : Row → Prop
  | .row _ _ _ els => ∀ (i : Nat) (cs : List C) (k : Nat) (x : C), els[i]? = some cs → cs[k]? = some x → C.Ok pl pr x
  | .mp _ => True
theorem RowFull.keep {P : Program} {w w' : World} {g g' : G} {pl : Loc → Prop} {pr : Rg → Prop} {l : Loc} {bx nl : Bool} {e : TypeId} {els : List (List C)} {b base n cap : Nat} {cs : Array Value} {f : Nat → Nat → Value}
    (h : RowFull P w g l bx nl e els b base n cap cs f) (hl : ∀ l, pl l → g'.hdr l = g.hdr l) (hr : ∀ rg, pr rg → ∀ b, g.reg rg b → g'.reg rg b ∧ w'.heap[b]? = w.heap[b]?)
    (h0 : g'.hdr l = g.hdr l) (hb : ∀ b, g.own b = some l → g'.own b = some l ∧ w'.heap[b]? = w.heap[b]?) (hx : Row.Ok pl pr (.row bx nl e els)) : RowFull P w' g' l bx nl e els b base n cap cs f :=
  ⟨h0.trans h.hd, (hb b h.own).1, (hb b h.own).2.trans h.heap, h.len, h.hcap, h.hmax, h.fit, h.pos, h.size, h.cell, fun i c k x q1 q2 => (h.rep i c k x q1 q2).keep hl hr (hx i c k x q1 q2), h.nonil⟩
theorem RowRep.keep {P : Program} {w w' : World} {g g' : G} {pl : Loc → Prop} {pr : Rg → Prop} {l : Loc} {row : Row}
    (h : RowRep P w g l row) (hl : ∀ l, pl l → g'.hdr l = g.hdr l) (hr : ∀ rg, pr rg → ∀ b, g.reg rg b → g'.reg rg b ∧ w'.heap[b]? = w.heap[b]?)
    (h0 : g'.hdr l = g.hdr l) (hb : ∀ b, g.own b = some l → g'.own b = some l ∧ w'.heap[b]? = w.heap[b]?) (hx : Row.Ok pl pr row) : RowRep P w' g' l row := by
  cases h with
  | nil nl e hd => exact .nil nl e (h0.trans hd)
  | zero e a hd => exact .zero e a (h0.trans hd)
  | full bx nl e els b base n cap cs f h => exact .full bx nl e els b base n cap cs f (h.keep hl hr h0 hb hx)
  | mp kvs b clk es hd own heap hes => exact .mp kvs b clk es (h0.trans hd) (hb b own).1 ((hb b own).2.trans heap) hes

/-! ### Slots -/
inductive R where
  | one (x : C)
  | agg (xs : List C)
inductive PV where
  | c (x : C)
  | agg (xs : List C)
  | ad (l : Loc) (e : TypeId) (i k : Nat)
  | ra (rg : Rg) (cells : List C)
  | tup (rs : List R)
  | und
  | junk
def hdrAt (v : Value) (b base : Nat) : Prop := (∃ n cap, v = .slice (some ⟨b, base, none⟩) n cap) ∨ v = .pointer (some ⟨b, base, none⟩)
def AggRep (w : World) (g : G) (xs : List C) (v : Value) : Prop := ∃ vs : Array Value, v = .agg vs ∧ vs.size = xs.length ∧ ∀ (k : Nat) (x : C), xs[k]? = some x → ∃ u, vs[k]? = some u ∧ CRep w g x u
def RRep (w : World) (g : G) : R → Value → Prop
  | .one x, v => CRep w g x v
  | .agg xs, v => AggRep w g xs v
def PRep (P : Program) (w : World) (g : G) : PV → Value → Prop
  | .c x, v => CRep w g x v
  | .agg xs, v => AggRep w g xs v
  | .ad l e i k, v => ∃ b base, hdrAt (g.hdr l) b base ∧ v = .pointer (some ⟨b, base + (i * szOf P e + k), none⟩)
  | .ra rg cells, v => ∃ b off, ∃ f : Nat → Value, g.reg rg b ∧ v = .pointer (some ⟨b, off, none⟩) ∧ ∀ (k : Nat) (x : C), cells[k]? = some x → w.cell? ⟨b, off + k, none⟩ = some (f k) ∧ CRep w g x (f k)
  | .tup rs, v => ∃ vs : Array Value, v = .tuple vs ∧ vs.size = rs.length ∧ ∀ (k : Nat) (r : R), rs[k]? = some r → ∃ u, vs[k]? = some u ∧ RRep w g r u
  | .und, v => v = undef
  | .junk, _ => True
def AllOk (pl : Loc → Prop) (pr : Rg → Prop) (xs : List C) : Prop := ∀ (k : Nat) (x : C), xs[k]? = some x → C.Ok pl pr x
def R.Ok (pl : Loc → Prop) (pr : Rg → Prop) : R → Prop
  | .one x => C.Ok pl pr x
  | .agg xs => AllOk pl pr xs
def PV.Ok (pl : Loc → Prop) (pr : Rg → Prop) : PV → Prop
  | .c x => C.Ok pl pr x
  | .agg xs => AllOk pl pr xs
  | .ad l _ _ _ => pl l
  | .ra rg cells => pr rg ∧ AllOk pl pr cells
  | .tup rs => ∀ (k : Nat) (r : R), rs[k]? = some r → R.Ok pl pr r
  | .und => True
  | .junk => True
section
variable {P : Program} {w w' : World} {g g' : G} {pl : Loc → Prop} {pr : Rg → Prop}
theorem AggRep.keep {xs : List C} {v : Value} (h : AggRep w g xs v) (hl : ∀ l, pl l → g'.hdr l = g.hdr l) (hr : ∀ rg, pr rg → ∀ b, g.reg rg b → g'.reg rg b ∧ w'.heap[b]? = w.heap[b]?) (hx : AllOk pl pr xs) : AggRep w' g' xs v := by
  obtain ⟨vs, h1, h2, h3⟩ := h
  refine ⟨vs, h1, h2, fun k x q => ?_⟩
  obtain ⟨u, hu, hc⟩ := h3 k x q
  exact ⟨u, hu, hc.keep hl hr (hx k x q)⟩
theorem RRep.keep {r : R} {v : Value} (h : RRep w g r v) (hl : ∀ l, pl l → g'.hdr l = g.hdr l) (hr : ∀ rg, pr rg → ∀ b, g.reg rg b → g'.reg rg b ∧ w'.heap[b]? = w.heap[b]?) (hx : R.Ok pl pr r) : RRep w' g' r v := by
  cases r with
  | one x => exact CRep.keep h hl hr hx
  | agg xs => exact AggRep.keep h hl hr hx
theorem PRep.keep {p : PV} {v : Value} (h : PRep P w g p v) (hl : ∀ l, pl l → g'.hdr l = g.hdr l) (hr : ∀ rg, pr rg → ∀ b, g.reg rg b → g'.reg rg b ∧ w'.heap[b]? = w.heap[b]?) (hx : PV.Ok pl pr p) : PRep P w' g' p v := by
  cases p with
  | c x => exact CRep.keep h hl hr hx
  | agg xs => exact AggRep.keep h hl hr hx
  | ad l e i k =>
    obtain ⟨b, base, h1, h2⟩ := h
    exact ⟨b, base, by rw [hl l hx]; exact h1, h2⟩
  | ra rg cells =>
    obtain ⟨b, off, f, h1, h2, h3⟩ := h
    have hb := hr rg hx.1 b h1
    exact ⟨b, off, f, hb.1, h2, fun k x q => ⟨by rw [World.cell?_of_block (w := w) hb.2]; exact (h3 k x q).1, (h3 k x q).2.keep hl hr (hx.2 k x q)⟩⟩
  | tup rs =>
    obtain ⟨vs, h1, h2, h3⟩ := h
    refine ⟨vs, h1, h2, fun k r q => ?_⟩
    obtain ⟨u, hu, hc⟩ := h3 k r q
    exact ⟨u, hu, hc.keep hl hr (hx k r q)⟩
  | und => exact h
  | junk => trivial
end

/-! ### The invariant -/
/-- Below B, and outside the given blocks, all is as it was. -/
structure Chg (O : Nat → Prop) (B : Nat) (w w' : World) : Prop where
  os : w'.os = w.os
  tape : w'.tape = w.tape
  output : w'.output = w.output
  size : w.heap.size ≤ w'.heap.size
  block : ∀ k, k < B → ¬ O k → w'.heap[k]? = w.heap[k]?
theorem Chg.refl (O : Nat → Prop) (B : Nat) (w : World) : Chg O B w w := ⟨rfl, rfl, rfl, Nat.le_refl _, fun _ _ _ => rfl⟩
theorem Chg.trans {O : Nat → Prop} {B : Nat} {a b c : World} (h : Chg O B a b) (k : Chg O B b c) : Chg O B a c :=
  ⟨k.os.trans h.os, k.tape.trans h.tape, k.output.trans h.output, Nat.le_trans h.size k.size, fun i hi ho => (k.block i hi ho).trans (h.block i hi ho)⟩
theorem Chg.of {O O' : Nat → Prop} {B B' : Nat} {a b : World} (h : Chg O' B' a b) (hB : ∀ k, k < B → ¬ O k → k < B' ∧ ¬ O' k) : Chg O B a b :=
  ⟨h.os, h.tape, h.output, h.size, fun k hk ho => h.block k (hB k hk ho).1 (hB k hk ho).2⟩
theorem Chg.lat {w w' : World} (h : Chg (fun _ => False) w.heap.size w w') : Lat w w' := ⟨h.os, h.tape, h.output, h.size, fun k hk => h.block k hk id⟩
theorem Chg.of_lat {O : Nat → Prop} {B : Nat} {w w' : World} (h : Lat w w') (hB : B ≤ w.heap.size) : Chg O B w w' := ⟨h.os, h.tape, h.output, h.size, fun k hk _ => h.block k (by omega)⟩

structure Ctx where
  P : Program
  N : Nat
  B0 : Nat
  w0 : World
  S0 : Nat → Prop
  O0 : Nat → Prop
  h0 : Nat → Value
structure GOK (X : Ctx) (g : G) (w : World) : Prop where
  chg : Chg X.O0 X.B0 X.w0 w
  base : X.B0 ≤ w.heap.size
  S : ∀ b, g.S b → b < w.heap.size ∧ (X.S0 b ∨ X.B0 ≤ b)
  own : ∀ b l, g.own b = some l → (X.O0 b ∨ X.B0 ≤ b) ∧ b < w.heap.size ∧ ¬ g.S b
abbrev Frame := Nat → PV
abbrev Rows := Loc → Option Row
structure InvG (X : Ctx) (fr : Frame) (rs : Rows) (a : Act) (w : World) (g : G) : Prop where
  size : a.tmps.size = X.N
  nodef : a.defers = []
  ok : GOK X g w
  slot : ∀ s, PRep X.P w g (fr s) (a.tmps.getD s undef)
  row : ∀ l row, rs l = some row → RowRep X.P w g l row
def Inv (X : Ctx) (fr : Frame) (rs : Rows) (a : Act) (w : World) : Prop := ∃ g, InvG X fr rs a w g

/-- The law of every step: a new value in slot d, a new world, new ghosts. -/
theorem InvG.next {X : Ctx} {fr fr' : Frame} {rs rs' : Rows} {a a' : Act} {w w' : World} {g g' : G} (h : InvG X fr rs a w g) (pl : Loc → Prop) (pr : Rg → Prop)
    (hl : ∀ l, pl l → g'.hdr l = g.hdr l) (hr : ∀ rg, pr rg → ∀ b, g.reg rg b → g'.reg rg b ∧ w'.heap[b]? = w.heap[b]?) (hok : GOK X g' w')
    (hsz : a'.tmps.size = a.tmps.size) (hdf : a'.defers = a.defers)
    (hslot : ∀ s, (fr' s = .junk) ∨ (fr' s = fr s ∧ a'.tmps.getD s undef = a.tmps.getD s undef ∧ PV.Ok pl pr (fr s)) ∨ PRep X.P w' g' (fr' s) (a'.tmps.getD s undef))
    (hrow : ∀ l row, rs' l = some row → (rs l = some row ∧ pl l ∧ Row.Ok pl pr row ∧ ∀ b, g.own b = some l → g'.own b = some l ∧ w'.heap[b]? = w.heap[b]?) ∨ RowRep X.P w' g' l row) :
    InvG X fr' rs' a' w' g' := by
  refine ⟨hsz.trans h.size, hdf.trans h.nodef, hok, fun s => ?_, fun l row hlr => ?_⟩
  · rcases hslot s with e | ⟨e1, e2, e3⟩ | e
    · rw [e]; trivial
    · rw [e1, e2]; exact (h.slot s).keep hl hr e3
    · exact e
  · rcases hrow l row hlr with ⟨e1, e2, e3, e4⟩ | e
    · exact (h.row l row e1).keep hl hr (hl l e2) e4 e3
    · exact e
end Go.Pu
/-
  Own work. The small typed language: types, values, expressions, statements, and what they compute.
-/
namespace Go.Pu
open Go Go.RowKit

inductive Ty where
  | int (k : IntKind)
  | bool
  | unit
  | pr (a b : Ty)
  | sl (e : TypeId) (a : Ty)
  | mp
  deriving DecidableEq, Repr, Inhabited
@[reducible] def Ty.den : Ty → Type
  | .int _ => Int
  | .bool => Bool
  | .unit => Unit
  | .pr a b => a.den × b.den
  | .sl _ a => List a.den
  | .mp => List (Int × Bool)
def Ty.dflt : (t : Ty) → t.den
  | .int _ => (0 : Int)
  | .bool => false
  | .unit => ()
  | .pr a b => (a.dflt, b.dflt)
  | .sl _ _ => []
  | .mp => []
/-- How many cells. -/
def Ty.n : Ty → Nat
  | .int _ | .bool | .sl _ _ | .mp => 1
  | .unit => 0
  | .pr a b => a.n + b.n
/-- No slices within. -/
def Ty.flat : Ty → Bool
  | .int _ | .bool | .unit => true
  | .pr a b => a.flat && b.flat
  | .sl _ _ | .mp => false
/-- Slices of what is flat, at most. -/
def Ty.flat1 : Ty → Bool
  | .int _ | .bool | .unit => true
  | .pr a b => a.flat1 && b.flat1
  | .sl _ a => a.flat
  | .mp => false
/-- No maps. -/
def Ty.nomap : Ty → Bool
  | .int _ | .bool | .unit => true
  | .pr a b => a.nomap && b.nomap
  | .sl _ a => a.nomap
  | .mp => false
structure V where
  t : Ty
  x : t.den
def V.u : V := ⟨.unit, ()⟩
def V.int : V → Int
  | ⟨.int _, z⟩ => z
  | _ => 0
def V.bool : V → Bool
  | ⟨.bool, b⟩ => b
  | _ => false
def V.len : V → Nat
  | ⟨.sl _ _, xs⟩ => xs.length
  | _ => 0
def V.proj : V → List Bool → V
  | v, [] => v
  | ⟨.pr a _, x⟩, false :: p => V.proj ⟨a, x.1⟩ p
  | ⟨.pr _ b, x⟩, true :: p => V.proj ⟨b, x.2⟩ p
  | _, _ :: _ => V.u
def Ty.proj : Ty → List Bool → Option Ty
  | t, [] => some t
  | .pr a _, false :: p => a.proj p
  | .pr _ b, true :: p => b.proj p
  | _, _ :: _ => none
abbrev Env := List V
structure Ref where
  n : Nat
  p : List Bool
  deriving DecidableEq, Repr, Inhabited
def Ref.get (ρ : Env) (r : Ref) : V := (ρ.getD r.n V.u).proj r.p
/-- An atom. -/
inductive At where
  | r (r : Ref)
  | int (k : IntKind) (z : Int)
  | bool (b : Bool)
  | nil (t : Ty)
  deriving DecidableEq, Repr, Inhabited
def At.get (ρ : Env) : At → V
  | .r q => q.get ρ
  | .int k z => ⟨.int k, z⟩
  | .bool b => ⟨.bool, b⟩
  | .nil t => ⟨t, t.dflt⟩
def At.ty (ts : List Ty) : At → Option Ty
  | .r q => match ts[q.n]? with | some t => t.proj q.p | none => none
  | .int k _ => some (.int k)
  | .bool _ => some .bool
  | .nil t => some t

/-- Within the environment's first n places. -/
def At.lt (n : Nat) : At → Bool
  | .r q => Nat.blt q.n n
  | _ => true

/-! ### What the expressions compute, on plain data -/
def wrap (k : IntKind) (z : Int) : Int := k.wrap z
def gget {α : Type} (d : α) (xs : List α) (i : Int) : Option α := if 0 ≤ i ∧ i < (xs.length : Int) then some (xs.getD i.toNat d) else none
def gset {α : Type} (xs : List α) (i : Int) (x : α) : List α := xs.set i.toNat x
/-- In range? -/
def gin (n : Nat) (i : Int) : Option Unit := if 0 ≤ i ∧ i < (n : Int) then some () else none
def gsame (a b : Int) : Option Unit := if a = b then some () else none
/-- n elements of so many bytes fit into memory -/
def gfit (bytes n : Nat) : Bool := decide (n * bytes ≤ 140737488355328 ∧ n ≤ 140737488355328)
def gapp {α : Type} (bytes : Nat) (xs ys : List α) : Option (List α) := if gfit bytes (xs.length + ys.length) then some (xs ++ ys) else none
def gmake {α : Type} (bytes : Nat) (d : α) (n : Int) : Option (List α) := if 0 ≤ n ∧ gfit bytes n.toNat then some (List.replicate n.toNat d) else none
def gslice {α : Type} (xs : List α) (lo hi : Int) : Option (List α) := if 0 ≤ lo ∧ lo ≤ hi ∧ hi ≤ (xs.length : Int) then some ((xs.take hi.toNat).drop lo.toNat) else none
def gdiv (k : IntKind) (a b : Int) : Option Int := if b = 0 then none else some (wrap k (a.tdiv b))
def grem (a b : Int) : Option Int := if b = 0 then none else some (a.tmod b)
def gand (k : IntKind) (a b : Int) : Int := wrap k ((BitVec.ofInt k.bits a &&& BitVec.ofInt k.bits b).toNat : Int)
def gor (k : IntKind) (a b : Int) : Int := wrap k ((BitVec.ofInt k.bits a ||| BitVec.ofInt k.bits b).toNat : Int)
def gxor (k : IntKind) (a b : Int) : Int := wrap k ((BitVec.ofInt k.bits a ^^^ BitVec.ofInt k.bits b).toNat : Int)
def gshift (left : Bool) (k : IntKind) (a b : Int) : Option Int := if 0 ≤ b ∧ b < k.bits then some (bif left then wrap k (a * 2 ^ b.toNat) else a.fdiv (2 ^ b.toNat)) else none
def gnil (empty : Bool) {α : Type} (xs : List α) : Option Bool := if empty || !xs.isEmpty then some xs.isEmpty else none
def mget (m : List (Int × Bool)) (k : Int) : Bool := match m.find? (fun e => e.1 == k) with | some e => e.2 | none => false
def mset : List (Int × Bool) → Int → Bool → List (Int × Bool)
  | [], k, b => [(k, b)]
  | e :: m, k, b => if k == e.1 then (k, b) :: m else e :: mset m k b

inductive BinA where
  | add | sub | mul | and | or | xor
  deriving DecidableEq, Repr, Inhabited
inductive CmpA where
  | eq | ne | lt | le | gt | ge
  deriving DecidableEq, Repr, Inhabited
inductive Ex where
  | atom (x : At)
  | bin (op : BinA) (k : IntKind) (x y : At)
  | div (k : IntKind) (x y : At)
  | rem (k : IntKind) (x y : At)
  | shift (left : Bool) (k : IntKind) (x y : At)
  | cmp (op : CmpA) (k : IntKind) (x y : At)
  | beq (neg : Bool) (x y : At)
  | not (x : At)
  | neg (k : IntKind) (x : At)
  | conv (k k' : IntKind) (x : At)
  | len (x : At)
  | idx (x i : At)
  | same (x y : At)
  | get (x i : At)
  | set (x i y : At)
  | mk (t : Ty) (cells : List At)
  | app (bytes : Nat) (x y : At)
  | lst (e : TypeId) (t : Ty) (xs : List (List At))
  | make (bytes : Nat) (e : TypeId) (t : Ty) (n : At)
  | slice (x : At) (lo hi : Option At)
  | min (k : IntKind) (x y : At)
  | max (k : IntKind) (x y : At)
  | isnil (empty : Bool) (x : At)
  | mget (x k : At)
  | mset (x k y : At)
  | call (key : Nat) (args : List At)
  deriving Repr, Inhabited
def CmpA.den : CmpA → Int → Int → Bool
  | .eq, x, y => decide (x = y)
  | .ne, x, y => decide (x ≠ y)
  | .lt, x, y => decide (x < y)
  | .le, x, y => decide (x ≤ y)
  | .gt, x, y => decide (y < x)
  | .ge, x, y => decide (y ≤ x)
def BinA.den (k : IntKind) : BinA → Int → Int → Int
  | .add, x, y => wrap k (x + y)
  | .sub, x, y => wrap k (x - y)
  | .mul, x, y => wrap k (x * y)
  | .and, x, y => gand k x y
  | .or, x, y => gor k x y
  | .xor, x, y => gxor k x y
/-- A contract: its parameters as one value, its results as one. -/
structure FE where
  key : Nat
  p : Ty
  r : Ty
  fn : p.den → Option r.den
/-- A value put together from its cells. -/
def mkv : (t : Ty) → List V → t.den × List V
  | .int _, v :: vs => (v.int, vs)
  | .bool, v :: vs => (v.bool, vs)
  | .unit, vs => ((), vs)
  | .pr a b, vs => (((mkv a vs).1, (mkv b (mkv a vs).2).1), (mkv b (mkv a vs).2).2)
  | .sl e a, v :: vs => ((if h : v.t = .sl e a then (cast (congrArg Ty.den h) v.x : List a.den) else []), vs)
  | .mp, v :: vs => ((if h : v.t = .mp then (cast (congrArg Ty.den h) v.x : List (Int × Bool)) else []), vs)
  | t, [] => (t.dflt, [])
def V.as (t : Ty) (v : V) : t.den := if h : v.t = t then cast (congrArg Ty.den h) v.x else t.dflt
def findF (Γ : List FE) (f : Nat) : Option FE := match Γ with
  | [] => none
  | e :: Γ => if e.key = f then some e else findF Γ f
def Ex.den (Γ : List FE) {ω : Type} (ρ : Env) (K : V → Option ω) : Ex → Option ω
  | .atom x => K (x.get ρ)
  | .bin op k x y => K ⟨.int k, op.den k (x.get ρ).int (y.get ρ).int⟩
  | .div k x y => (gdiv k (x.get ρ).int (y.get ρ).int).bind fun z => K ⟨.int k, z⟩
  | .rem k x y => (grem (x.get ρ).int (y.get ρ).int).bind fun z => K ⟨.int k, z⟩
  | .shift l k x y => (gshift l k (x.get ρ).int (y.get ρ).int).bind fun z => K ⟨.int k, z⟩
  | .cmp op _ x y => K ⟨.bool, op.den (x.get ρ).int (y.get ρ).int⟩
  | .beq ng x y => K ⟨.bool, ng ^^ ((x.get ρ).bool == (y.get ρ).bool)⟩
  | .not x => K ⟨.bool, !(x.get ρ).bool⟩
  | .neg k x => K ⟨.int k, wrap k (0 - (x.get ρ).int)⟩
  | .conv _ k' x => K ⟨.int k', wrap k' (x.get ρ).int⟩
  | .len x => K ⟨.int .i64, ((x.get ρ).len : Int)⟩
  | .idx x i => (gin (x.get ρ).len (i.get ρ).int).bind fun _ => K V.u
  | .same x y => (gsame (x.get ρ).int (y.get ρ).int).bind fun _ => K V.u
  | .get x i => match x.get ρ with
    | ⟨.sl _ a, xs⟩ => (gget a.dflt xs (i.get ρ).int).bind fun y => K ⟨a, y⟩
    | _ => none
  | .set x i y => match x.get ρ with
    | ⟨.sl e a, xs⟩ => K ⟨.sl e a, gset xs (i.get ρ).int ((y.get ρ).as a)⟩
    | _ => none
  | .mk t cells => K ⟨t, (mkv t (cells.map (At.get ρ))).1⟩
  | .app bytes x y => match x.get ρ with
    | ⟨.sl e a, xs⟩ => (gapp bytes xs ((y.get ρ).as (.sl e a))).bind fun zs => K ⟨.sl e a, zs⟩
    | _ => none
  | .lst e t xs => K ⟨.sl e t, xs.map fun c => (mkv t (c.map (At.get ρ))).1⟩
  | .make bytes e t n => (gmake bytes t.dflt (n.get ρ).int).bind fun zs => K ⟨.sl e t, zs⟩
  | .slice x lo hi => match x.get ρ with
    | ⟨.sl e a, xs⟩ => (gslice xs (match lo with | some l => (l.get ρ).int | none => 0) (match hi with | some h => (h.get ρ).int | none => (xs.length : Int))).bind fun zs => K ⟨.sl e a, zs⟩
    | _ => none
  | .min k x y => K ⟨.int k, if (y.get ρ).int < (x.get ρ).int then (y.get ρ).int else (x.get ρ).int⟩
  | .max k x y => K ⟨.int k, if (x.get ρ).int < (y.get ρ).int then (y.get ρ).int else (x.get ρ).int⟩
  | .isnil empty x => match x.get ρ with
    | ⟨.sl _ _, xs⟩ => (gnil empty xs).bind fun b => K ⟨.bool, b⟩
    | _ => none
  | .mget x k => match x.get ρ with
    | ⟨.mp, m⟩ => K ⟨.bool, Pu.mget m (k.get ρ).int⟩
    | _ => none
  | .mset x k y => match x.get ρ with
    | ⟨.mp, m⟩ => K ⟨.mp, Pu.mset m (k.get ρ).int (y.get ρ).bool⟩
    | _ => none
  | .call f args => match findF Γ f with
    | some e => (e.fn (mkv e.p (args.map (At.get ρ))).1).bind fun x => K ⟨e.r, x⟩
    | none => none

inductive Stm where
  | bind (e : Ex) (s : Stm)
  | ite (c : At) (s1 s2 : Stm)
  | loop (t : Ty) (init : List At) (body : Stm)
  | join (t : Ty) (body k : Stm)
  | next (t : Ty) (xs : List At)
  | lift (s : Stm)
  | ret (t : Ty) (xs : List At)
  deriving Repr, Inhabited
@[reducible] def Out : List Ty → Ty → Type
  | [], r => r.den
  | t :: c, r => t.den ⊕ Out c r

/-! ### Loops: the least fixed point, without fuel -/
def iter {σ ω : Type} (f : σ → Option (σ ⊕ ω)) : Nat → σ → Option ω
  | 0, _ => none
  | n + 1, s => match f s with
    | some (.inl s') => iter f n s'
    | some (.inr o) => some o
    | none => none
theorem iter_mono {σ ω : Type} {f : σ → Option (σ ⊕ ω)} : ∀ {n m : Nat} {s : σ} {o : ω}, iter f n s = some o → n ≤ m → iter f m s = some o
  | 0, _, _, _, h, _ => by cases h
  | n + 1, 0, _, _, _, hm => absurd hm (Nat.not_succ_le_zero n)
  | n + 1, m + 1, s, o, h, hm => by
    unfold iter at h ⊢
    cases hf : f s with
    | none => simp [hf] at h
    | some x => cases x with
      | inl s' => simp only [hf] at h ⊢; exact iter_mono h (Nat.le_of_succ_le_succ hm)
      | inr o' => simp only [hf] at h ⊢; exact h
open Classical in
noncomputable def loop {σ ω : Type} (f : σ → Option (σ ⊕ ω)) (s : σ) : Option ω := if h : ∃ n o, iter f n s = some o then some h.choose_spec.choose else none
theorem loop_iff {σ ω : Type} {f : σ → Option (σ ⊕ ω)} {s : σ} {o : ω} : loop f s = some o ↔ ∃ n, iter f n s = some o := by
  unfold loop
  constructor
  · intro h
    split at h
    · rename_i hh
      cases h
      exact ⟨_, hh.choose_spec.choose_spec⟩
    · cases h
  · rintro ⟨n, hn⟩
    have hh : ∃ n o, iter f n s = some o := ⟨n, o, hn⟩
    rw [dif_pos hh]
    have h1 := hh.choose_spec.choose_spec
    have h2 := iter_mono h1 (Nat.le_max_left hh.choose n)
    have h3 := iter_mono hn (Nat.le_max_right hh.choose n)
    rw [h2] at h3
    exact h3
theorem loop_eq {σ ω : Type} (f : σ → Option (σ ⊕ ω)) (s : σ) : loop f s = match f s with | some (.inl s') => loop f s' | some (.inr o) => some o | none => none := by
  apply Option.ext
  intro o
  rw [loop_iff]
  cases hf : f s with
  | none =>
    simp only
    constructor
    · rintro ⟨n, hn⟩
      cases n with
      | zero => cases hn
      | succ n => simp [iter, hf] at hn
    · intro h; cases h
  | some x => cases x with
    | inl s' =>
      simp only
      rw [loop_iff]
      constructor
      · rintro ⟨n, hn⟩
        cases n with
        | zero => cases hn
        | succ n => exact ⟨n, by simpa [iter, hf] using hn⟩
      · rintro ⟨n, hn⟩
        exact ⟨n + 1, by simpa [iter, hf] using hn⟩
    | inr o' =>
      simp only
      constructor
      · rintro ⟨n, hn⟩
        cases n with
        | zero => cases hn
        | succ n => simpa [iter, hf] using hn
      · intro h
        exact ⟨1, by simpa [iter, hf] using h⟩

def joinO {α β : Type} (o : Option (α ⊕ β)) (k : α → Option β) : Option β := o.bind fun x => match x with
  | .inl a => k a
  | .inr b => some b
set_option linter.unusedVariables false in
noncomputable def Stm.den (Γ : List FE) : (c : List Ty) → (r : Ty) → Env → Stm → Option (Out c r)
  | c, r, ρ, .bind e s => e.den Γ ρ fun v => s.den Γ c r (ρ ++ [v])
  | c, r, ρ, .ite x s1 s2 => bif (x.get ρ).bool then s1.den Γ c r ρ else s2.den Γ c r ρ
  | c, r, ρ, .loop t init body => Pu.loop (fun x : t.den => body.den Γ (t :: c) r (ρ ++ [⟨t, x⟩])) (mkv t (init.map (At.get ρ))).1
  | c, r, ρ, .join t body k => joinO (body.den Γ (t :: c) r ρ) fun x => k.den Γ c r (ρ ++ [⟨t, x⟩])
  | t' :: c, r, ρ, .next t xs => if h : t = t' then some (.inl (h ▸ (mkv t (xs.map (At.get ρ))).1)) else none
  | _ :: c, r, ρ, .lift s => (s.den Γ c r ρ).map .inr
  | [], r, ρ, .ret t xs => if h : t = r then some (h ▸ (mkv t (xs.map (At.get ρ))).1) else none
  | [], _, _, .next _ _ => none
  | [], _, _, .lift _ => none
  | _ :: _, _, _, .ret _ _ => none
end Go.Pu
/-
  Own work. Closed states and the translation of the model's code into the small typed language.
-/
namespace Go.Pu
open Go Go.RowKit
set_option linter.unusedVariables false

abbrev M := Except String
inductive SC where
  | v (x : At)
  | s (rg : Rg) (x : At)
  | nil
  | h (r : Nat)
  | hn (r : Nat) (i : At) (k : Nat) (x : At)
  | hs (r : Nat) (lo hi : Option At) (x : At)
  | rp (rg : Rg) (cells : List SC)
  | fn (f : FuncId) (caps : List SC)
  | gone
  deriving Repr, Inhabited
inductive SV where
  | c (x : SC)
  | agg (xs : List SC)
  | ad (r : Nat) (e : TypeId) (i : At) (k : Nat)
  | ra (rg : Rg) (cells : List SC)
  | tup (rs : List (Bool × List SC))
  | und
  | junk
  deriving Repr, Inhabited
inductive RK where
  | box (e : TypeId) (cells : List SC)
  | list (e : TypeId) (a : Ty) (val : At) (nl : Bool) (inner : Option Rg)
  | listH (e : TypeId) (a : Ty) (val : At) (nl : Bool) (i : At) (k : Nat)
  | mp (val : At)
  | dead
  deriving Repr, Inhabited
structure St where
  ts : List Ty
  slots : List SV
  roots : List RK
  fix : List Nat := []
  dirty : List (Nat × Bool) := []
  deriving Repr, Inhabited

/-! ### Types of the program -/
def structTy : List (Option Ty) → Option Ty
  | [] => some .unit
  | [t] => t
  | t :: ts => match t, structTy ts with
    | some a, some b => some (.pr a b)
    | _, _ => none
def tyId (P : Program) : Nat → TypeId → Option Ty
  | 0, _ => none
  | n + 1, t => match P.underlying t with
    | some (.int k) => some (.int k)
    | some .bool => some .bool
    | some (.slice e) => match tyId P n e with
      | some a => some (.sl e a)
      | none => none
    | some (.struct fs) => structTy (fs.toList.map fun f => tyId P n f.type)
    | some (.map _ _) => some .mp
    | _ => none
def fldOf (P : Program) (t : TypeId) (fi : Nat) : Option (Nat × Nat) := match P.underlying t with
  | some (.struct fs) => match fs[fi]? with
    | some f => some (f.offset, szOf P f.type)
    | none => none
  | _ => none
def aggOf (P : Program) (t : TypeId) : Option Bool := match P.underlying t with
  | some (.struct _) => some true
  | some (.array _ _) => none
  | some _ => some false
  | none => none
def isAggT (P : Program) (t : TypeId) : Bool := decide (aggOf P t = some true)
def elemOf (P : Program) (t : TypeId) : Option TypeId := match P.underlying t with
  | some (.slice e) => some e
  | _ => none
def bytesOf (P : Program) (e : TypeId) : Nat := match P.info? e with | some i => i.bytes | none => 0

/-! ### Cells of values -/
def cellsOf (rg : Rg) (n : Nat) : List Bool → Ty → List SC
  | p, .int _ => [.v (.r ⟨n, p⟩)]
  | p, .bool => [.v (.r ⟨n, p⟩)]
  | _, .unit => []
  | p, .pr a b => cellsOf rg n (p ++ [false]) a ++ cellsOf rg n (p ++ [true]) b
  | p, .sl _ _ => [.s rg (.r ⟨n, p⟩)]
  | _, .mp => [.gone]
/-- Of an element of an owned list whose elements hold slices of their own. -/
def cellsOfN (r : Nat) (i : At) (n : Nat) : Nat → List Bool → Ty → List SC
  | _, p, .int _ => [.v (.r ⟨n, p⟩)]
  | _, p, .bool => [.v (.r ⟨n, p⟩)]
  | _, _, .unit => []
  | k, p, .pr a b => cellsOfN r i n k (p ++ [false]) a ++ cellsOfN r i n (k + a.n) (p ++ [true]) b
  | k, p, .sl _ _ => [.hn r i k (.r ⟨n, p⟩)]
  | _, _, .mp => [.gone]
def zeroCells : Ty → List SC
  | .int k => [.v (.int k 0)]
  | .bool => [.v (.bool false)]
  | .unit => []
  | .pr a b => zeroCells a ++ zeroCells b
  | .sl _ _ => [.nil]
  | .mp => [.gone]

/-! ### Striking handles -/
mutual
/-- The contents of root r have turned (all: its header too). -/
def SC.kill (all : Bool) (r : Nat) : SC → SC
  | .s (some r') x => bif Nat.beq r' r then .gone else .s (some r') x
  | .h r' => bif all && Nat.beq r' r then .gone else .h r'
  | .hn r' i k x => bif Nat.beq r' r then .gone else .hn r' i k x
  | .hs r' lo hi x => bif Nat.beq r' r then .gone else .hs r' lo hi x
  | .rp rg cells => bif (match rg with | some r' => Nat.beq r' r | none => false) then .gone else .rp rg (killL all r cells)
  | .fn f caps => .fn f (killL all r caps)
  | c => c
def killL (all : Bool) (r : Nat) : List SC → List SC
  | [] => []
  | c :: cs => c.kill all r :: killL all r cs
end
def SV.kill (all : Bool) (r : Nat) : SV → SV
  | .c x => .c (x.kill all r)
  | .agg xs => .agg (killL all r xs)
  | .ad r' e i k => bif all && Nat.beq r' r then .junk else .ad r' e i k
  | .ra rg cells => bif (match rg with | some r' => Nat.beq r' r | none => false) then .junk else .ra rg (killL all r cells)
  | .tup rs => .tup (rs.map fun x => (x.1, killL all r x.2))
  | .und => .und
  | .junk => .junk
def RK.kill (all : Bool) (r : Nat) : RK → RK
  | .box e cells => .box e (killL all r cells)
  | .list e a val nl (some (some r')) => bif Nat.beq r' r then .dead else .list e a val nl (some (some r'))
  | k => k
def St.kill (st : St) (all : Bool) (r : Nat) : St := { st with slots := st.slots.map (SV.kill all r), roots := st.roots.map (RK.kill all r) }
def St.setR (st : St) (r : Nat) (k : RK) : St := { st with roots := st.roots.set r k }
def St.put (st : St) (d : Nat) (v : SV) : St := { st with slots := st.slots.set d v }
def St.rk (st : St) (r : Nat) : RK := st.roots.getD r .dead
def St.slot (st : St) (s : Nat) : SV := st.slots.getD s .junk
def St.push (st : St) (k : RK) : St := { st with roots := st.roots ++ [k] }
def St.nr (st : St) : Nat := st.roots.length

/-! ### Atoms within the environment -/
def oLt (n : Nat) : Option At → Bool
  | some x => x.lt n
  | none => true
mutual
def SC.wf (n : Nat) : SC → Bool
  | .v x => x.lt n
  | .s _ x => x.lt n
  | .hn _ i _ x => i.lt n && x.lt n
  | .hs _ lo _ x => oLt n lo && x.lt n
  | .rp _ cells => wfL n cells
  | .fn _ caps => wfL n caps
  | _ => true
def wfL (n : Nat) : List SC → Bool
  | [] => true
  | c :: cs => c.wf n && wfL n cs
end
def SV.wf (n : Nat) : SV → Bool
  | .c x => x.wf n
  | .agg xs => wfL n xs
  | .ad _ _ i _ => i.lt n
  | .ra _ cells => wfL n cells
  | .tup rs => rs.all fun x => wfL n x.2
  | _ => true
def RK.wf (n : Nat) : RK → Bool
  | .box _ cells => wfL n cells
  | .list _ _ v _ _ => v.lt n
  | .listH _ _ v _ i _ => v.lt n && i.lt n
  | .mp v => v.lt n
  | .dead => true
def St.wf (st : St) : Bool := st.slots.all (SV.wf st.ts.length) && st.roots.all (RK.wf st.ts.length)

/-! ### Roots spoken of -/
mutual
def SC.okR (ph pr : Nat → Bool) : SC → Bool
  | .s (some r) _ => pr r
  | .h r => ph r
  | .hn r _ _ _ => ph r && pr r
  | .hs r _ _ _ => ph r && pr r
  | .rp rg cells => (match rg with | some r => pr r | none => true) && okL ph pr cells
  | .fn _ caps => okL ph pr caps
  | _ => true
def okL (ph pr : Nat → Bool) : List SC → Bool
  | [] => true
  | c :: cs => c.okR ph pr && okL ph pr cs
end
def SV.okR (ph pr : Nat → Bool) : SV → Bool
  | .c x => x.okR ph pr
  | .agg xs => okL ph pr xs
  | .ad r _ _ _ => ph r
  | .ra rg cells => (match rg with | some r => pr r | none => true) && okL ph pr cells
  | .tup rs => rs.all fun x => okL ph pr x.2
  | _ => true
def RK.okR (ph pr : Nat → Bool) : RK → Bool
  | .box _ cells => okL ph pr cells
  | .list _ _ _ _ (some (some r)) => pr r
  | _ => true
def St.okR (st : St) (ph pr : Nat → Bool) : Bool := st.slots.all (SV.okR ph pr) && st.roots.all (RK.okR ph pr)
/-- No root is spoken of that is not there. -/
def St.rok (st : St) : Bool := st.okR (fun r => Nat.blt r st.nr) (fun r => Nat.blt r st.nr) && st.fix.all fun r => Nat.blt r st.nr

def constV : Value → M SV
  | .int k z => .ok (.c (.v (.int k z)))
  | .bool b => .ok (.c (.v (.bool b)))
  | .slice none 0 0 => .ok (.c .nil)
  | .pointer none => .ok (.c .gone)
  | .nilFunc => .ok (.c .gone)
  | .map none => .ok (.c .gone)
  | _ => .error "const"
def St.val (st : St) : Operand → M SV
  | .tmp t => .ok (st.slot t)
  | .const v => constV v
  | .func f => .ok (.c (.fn f []))
  | .global _ => .error "global"
def St.ty (st : St) (x : At) : M Ty := match x.ty st.ts with | some t => .ok t | none => .error "type of an atom"
def St.atom (st : St) (o : Operand) : M At := do match ← st.val o with | .c (.v x) => .ok x | v => .error "atom"
def St.intOf (st : St) (o : Operand) : M (IntKind × At) := do
  let x ← st.atom o
  match ← st.ty x with
  | .int k => .ok (k, x)
  | _ => .error "an integer expected"
def St.boolOf (st : St) (o : Operand) : M At := do
  let x ← st.atom o
  match ← st.ty x with
  | .bool => .ok x
  | _ => .error "a bool expected"
/-- A slice's value, where it is only looked at. -/
def St.listVal (st : St) : SC → M At
  | .s _ x => .ok x
  | .hn _ _ _ x => .ok x
  | .hs _ _ _ x => .ok x
  | .h r => match st.rk r with
    | .list e a val _ _ => if val.ty st.ts = some (.sl e a) then .ok val else .error "a lists type"
    | _ => .error "a list expected"
  | _ => .error "a slice expected"
/-- A cell's value, of type t, where it is handed over for reading. -/
def St.cellVal (st : St) (t : Ty) (c : SC) : M At := do
  match c with
  | .v x => if (← st.ty x) = t then .ok x else .error "cell type"
  | .nil => match t with
    | .sl _ _ => .ok (.nil t)
    | _ => .error "cell nil"
  | c =>
    let x ← st.listVal c
    if (← st.ty x) = t then .ok x else .error "cell list type"
def Ty.leaves : Ty → List Ty
  | .unit => []
  | .pr a b => a.leaves ++ b.leaves
  | t => [t]
def St.cellVals (st : St) : List Ty → List SC → M (List At)
  | [], [] => .ok []
  | t :: ts, c :: cs => do .ok ((← st.cellVal t c) :: (← st.cellVals ts cs))
  | _, _ => .error "cells number"
/-- One cell's worth, for sure. -/
def St.solid (st : St) : SC → Bool
  | .v x => match x.ty st.ts with
    | some (.int _) => true
    | some .bool => true
    | _ => false
  | .h r => match st.rk r with
    | .dead => false
    | _ => true
  | .gone => false
  | _ => true
def svCells : SV → M (List SC)
  | .c x => .ok [x]
  | .agg xs => .ok xs
  | _ => .error "a value expected"
def St.cells (st : St) (v : SV) : M (List SC) := do
  let cs ← svCells v
  if cs.all st.solid then .ok cs else .error "no solid value"
/-- The next environment place. -/
def St.nx (st : St) : Nat := st.ts.length
def St.bind (st : St) (t : Ty) : St := { st with ts := st.ts ++ [t] }
def St.ref (st : St) : At := .r ⟨st.ts.length, []⟩

def splice {α : Type} (c : List α) (k : Nat) (xs : List α) : List α := c.take k ++ xs ++ c.drop (k + xs.length)

/-! ### Contracts' shapes -/
inductive Par where
  | val (agg : Bool) (t : Ty)
  | ptr (t : Ty)
  | own (agg : Bool) (t : Ty) (io : Bool)
  | iob (e : TypeId) (t : Ty)
  | fn (f : FuncId) (caps : List Ty)
  deriving Repr, Inhabited, DecidableEq
inductive Res where
  | val (agg : Bool) (t : Ty) (nl : Bool)
  | ptr (e : TypeId) (t : Ty)
  deriving Repr, Inhabited, DecidableEq
structure Sig where
  key : Nat
  f : FuncId
  ps : List Par
  rs : List Res
  deriving Repr, Inhabited
def prod : List Ty → Ty
  | [] => .unit
  | [t] => t
  | t :: ts => .pr t (prod ts)
def Par.ty : Par → Ty
  | .val _ t | .ptr t | .iob _ t | .own _ t _ => t
  | .fn _ ts => prod ts
def Res.ty : Res → Ty
  | .val _ t _ | .ptr _ t => t
def Ty.isSl : Ty → Bool
  | .sl _ _ => true
  | _ => false
def Ty.scalar : Ty → Bool
  | .int _ => true
  | .bool => true
  | _ => false
def Ty.sls (t : Ty) : Nat := (t.leaves.filter Ty.isSl).length
def Par.io : Par → List Ty
  | .own _ t true => t.leaves.filter Ty.isSl
  | _ => []
/-- Lists whose elements hold lists of flat elements at most. -/
def Ty.flat2 : Ty → Bool
  | .int _ => true
  | .bool => true
  | .unit => true
  | .pr a b => a.flat2 && b.flat2
  | .sl _ a => a.flat1
  | .mp => false
/-- How many roots a parameter brings. -/
def Par.nroots : Par → Nat
  | .own _ t _ => t.sls
  | _ => 0
/-- .. and which of them come back. -/
def Par.flags : Par → List Bool
  | .own _ t io => List.replicate t.sls io
  | _ => []
def Sig.p (s : Sig) : Ty := prod (s.ps.map Par.ty)
def Sig.r (s : Sig) : Ty := prod (s.rs.map Res.ty ++ s.ps.flatMap Par.io)
def Sig.m (s : Sig) : Nat := s.rs.length + (s.ps.flatMap Par.io).length
def Sig.flags (s : Sig) : List Bool := s.ps.flatMap Par.flags
def Par.fits : Par → M SV → Bool
  | .fn f ts, .ok (.c (.fn g caps)) => decide (f = g) && decide (ts.length = caps.length)
  | .fn _ _, _ => false
  | _, _ => true
def findS (st : St) (ss : List Sig) (f : FuncId) (os : List Operand) : Option Sig := match ss with
  | [] => none
  | s :: ss => if s.f = f ∧ (s.ps.zip os).all (fun p => p.1.fits (st.val p.2)) then some s else findS st ss f os
/-- The path of the i-th part of a product of n parts. -/
def partPath : Nat → Nat → List Bool
  | 0, _ => []
  | 1, _ => []
  | _ + 2, 0 => [false]
  | n + 2, i + 1 => true :: partPath (n + 1) i
def pathsOf : List Bool → Ty → List (List Bool)
  | _, .unit => []
  | p, .pr a b => pathsOf (p ++ [false]) a ++ pathsOf (p ++ [true]) b
  | p, _ => [p]
/-- The leaves of a type with their paths. -/
def Ty.lp (p : List Bool) (t : Ty) : List (Ty × List Bool) := t.leaves.zip (pathsOf p t)

/-- What comes of an operation: the expressions bound, in order (each with its type), and the state behind. -/
structure Step where
  es : List (Ex × Ty)
  st : St
  deriving Repr, Inhabited

/-- The cells of an own value (place n): each slice a root, from root r on. -/
def ownCs (n : Nat) : List (Ty × List Bool) → Nat → List SC
  | [], _ => []
  | (.sl _ _, _) :: ls, r => .h r :: ownCs n ls (r + 1)
  | (.mp, _) :: ls, r => .gone :: ownCs n ls r
  | (_, p) :: ls, r => .v (.r ⟨n, p⟩) :: ownCs n ls r
def ownRs (nl : Bool) (n : Nat) : List (Ty × List Bool) → List RK
  | [] => []
  | (.sl e a, p) :: ls => .list e a (.r ⟨n, p⟩) nl none :: ownRs nl n ls
  | _ :: ls => ownRs nl n ls
def slotOf (agg : Bool) (cs : List SC) : SV := if agg then .agg cs else match cs with | c :: _ => .c c | [] => .junk
/-- The callee's parameters. -/
def parSlot (m i r : Nat) : Par → SV
  | .val agg t => slotOf agg (cellsOf none 0 (partPath m i) t)
  | .ptr t => .c (.rp none (cellsOf none 0 (partPath m i) t))
  | .own agg t _ => slotOf agg (ownCs 0 (t.lp (partPath m i)) r)
  | .iob _ _ => .junk
  | .fn f ts => .c (.fn f (ts.zipIdx.map fun x => .rp none (cellsOf none 0 (partPath m i ++ partPath ts.length x.2) x.1)))
def parRoots (m i : Nat) : Par → List RK
  | .own _ t _ => ownRs false 0 (t.lp (partPath m i))
  | _ => []
def initSlots (m : Nat) : Nat → Nat → List Par → List SV
  | _, _, [] => []
  | i, r, p :: ps => parSlot m i r p :: initSlots m (i + 1) (r + p.nroots) ps
def initRoots (m : Nat) : Nat → List Par → List RK
  | _, [] => []
  | i, p :: ps => parRoots m i p ++ initRoots m (i + 1) ps
def preSt (s : Sig) : St := { ts := [s.p], slots := initSlots s.ps.length 0 0 s.ps, roots := initRoots s.ps.length 0 s.ps }
/-- The results. -/
def resCs (n m : Nat) : Nat → Nat → List Res → List (Bool × List SC)
  | _, _, [] => []
  | i, r, .val agg t _ :: rs => (agg, ownCs n (t.lp (partPath m i)) r) :: resCs n m (i + 1) (r + t.sls) rs
  | i, r, .ptr _ t :: rs => (false, [.h (r + t.sls)]) :: resCs n m (i + 1) (r + t.sls + 1) rs
def resRs (n m : Nat) : Nat → Nat → List Res → List RK
  | _, _, [] => []
  | i, r, .val _ t nl :: rs => ownRs nl n (t.lp (partPath m i)) ++ resRs n m (i + 1) (r + t.sls) rs
  | i, r, .ptr e t :: rs => ownRs false n (t.lp (partPath m i)) ++ (.box e (ownCs n (t.lp (partPath m i)) r) :: resRs n m (i + 1) (r + t.sls + 1) rs)
def resSV : List (Bool × List SC) → SV
  | [(false, [c])] => .c c
  | [(true, cs)] => .agg cs
  | cs => .tup cs
/-- The parameters' roots, behind the call. -/
def postRs (n m : Nat) : Nat → List Par → List RK
  | _, [] => []
  | i, .own _ t true :: ps => ownRs false n ((t.leaves.filter Ty.isSl).zipIdx.map fun x => (x.1, partPath m (i + x.2))) ++ postRs n m (i + t.sls) ps
  | i, .own _ t false :: ps => List.replicate t.sls .dead ++ postRs n m i ps
  | i, _ :: ps => postRs n m i ps
def Sig.k0 (s : Sig) : Nat := s.flags.length
def postSt (s : Sig) : St := { ts := [s.r], slots := [resSV (resCs 0 s.m 0 s.k0 s.rs)], roots := postRs 0 s.m s.rs.length s.ps ++ resRs 0 s.m 0 s.k0 s.rs }

/-! ### The caller's side -/
def rgOut (R : List Nat) : Rg → Bool
  | some r => !R.contains r
  | none => true
/-- A cell's value, lent; it must not speak of the roots R. -/
def St.argVal (st : St) (R : List Nat) (t : Ty) : SC → M At
  | .v x => if t.scalar ∧ x.ty st.ts = some t then .ok x else .error "argument atom"
  | .nil => if t.isSl then .ok (.nil t) else .error "argument nil"
  | .s rg x => if t.isSl ∧ x.ty st.ts = some t ∧ rgOut R rg then .ok x else .error "argument slice"
  | .h r => match st.rk r with
    | .list e a val _ none => if t = .sl e a ∧ a.flat1 ∧ val.ty st.ts = some t ∧ !R.contains r then .ok val else .error "argument list"
    | _ => .error "argument root"
  | .hn r _ _ x => if t.isSl ∧ x.ty st.ts = some t ∧ !R.contains r then .ok x else .error "argument slice"
  | .hs r _ _ x => if t.isSl ∧ x.ty st.ts = some t ∧ !R.contains r then .ok x else .error "argument slice"
  | _ => .error "argument cell"
def St.argVals (st : St) (R : List Nat) : List Ty → List SC → M (List At)
  | [], [] => .ok []
  | t :: ts, c :: cs => do
    let x ← st.argVal R t c
    let xs ← st.argVals R ts cs
    .ok (x :: xs)
  | _, _ => .error "cells number"
def svAgg (agg : Bool) : SV → M (List SC)
  | .c x => if agg then .error "argument no struct" else .ok [x]
  | .agg xs => if agg then .ok xs else .error "argument a struct"
  | _ => .error "argument value"
/-- What the callee owns for the call: values and roots. -/
def St.ownVals (st : St) : List Ty → List SC → M (List At × List Nat)
  | [], [] => .ok ([], [])
  | .sl e a :: ts, c :: cs => match c with
    | .h r => match st.rk r with
      | .list e' a' val _ none => do
        let (xs, rs) ← st.ownVals ts cs
        if e = e' ∧ a = a' ∧ a.flat1 ∧ val.ty st.ts = some (.sl e a) then .ok (val :: xs, r :: rs) else .error "own argument type"
      | _ => .error "own argument root"
    | _ => .error "own argument no list"
  | t :: ts, c :: cs => match c with
    | .v x => do
      let (xs, rs) ← st.ownVals ts cs
      if t.scalar ∧ x.ty st.ts = some t then .ok (x :: xs, rs) else .error "own argument atom"
    | _ => .error "own argument cell"
  | _, _ => .error "cells number"
def St.ptrCells (st : St) (R : List Nat) : SC → M (List SC)
  | .h r => match st.rk r with
    | .box _ cells => if !R.contains r then .ok cells else .error "argument an own box"
    | _ => .error "argument no box"
  | .rp rg cells => if rgOut R rg then .ok cells else .error "argument pointer"
  | _ => .error "argument no pointer"
def capVals (st : St) (R : List Nat) : List Ty → List SC → M (List At)
  | [], [] => .ok []
  | t :: ts, c :: cs => do
    let ds ← st.ptrCells R c
    let xs ← st.argVals R t.leaves ds
    let ys ← capVals st R ts cs
    .ok (xs ++ ys)
  | _, _ => .error "captures"
def callRoots (st : St) : List Par → List SV → M (List Nat)
  | [], [] => .ok []
  | .own agg t _ :: ps, v :: vs => do
    let cs ← svAgg agg v
    let x ← st.ownVals t.leaves cs
    let rs ← callRoots st ps vs
    .ok (x.2 ++ rs)
  | _ :: ps, _ :: vs => callRoots st ps vs
  | _, _ => .error "arguments number"
def callArg (st : St) (R : List Nat) (p : Par) (v : SV) : M (List At) := match p with
  | .val agg t => do
    let cs ← svAgg agg v
    st.argVals R t.leaves cs
  | .ptr t => match v with
    | .c c => do
      let cs ← st.ptrCells R c
      st.argVals R t.leaves cs
    | _ => .error "argument no pointer"
  | .own agg t _ => do
    let cs ← svAgg agg v
    let x ← st.ownVals t.leaves cs
    .ok x.1
  | .fn f ts => match v with
    | .c (.fn f' caps) => if f = f' then capVals st R ts caps else .error "argument another function"
    | _ => .error "argument function"
  | .iob _ _ => .error "argument box"
def callArgs (st : St) (R : List Nat) : List Par → List SV → M (List At)
  | [], [] => .ok []
  | p :: ps, v :: vs => do
    let xs ← callArg st R p v
    let ys ← callArgs st R ps vs
    .ok (xs ++ ys)
  | _, _ => .error "arguments number"
def nodup : List Nat → Bool
  | [] => true
  | x :: xs => !xs.contains x && nodup xs
/-- The roots handed over are struck. -/
def killR : List (Nat × Bool) → St → St
  | [], st => st
  | (r, io) :: l, st => if st.rok && (io || !st.fix.contains r) then killR l ((st.kill (!io) r).setR r .dead) else killR l st
def setRs : List (Nat × RK) → St → St
  | [], st => st
  | (r, k) :: l, st => setRs l (st.setR r k)
/-- Roots that do not come back. -/
def goneR (l : List (Nat × Bool)) (r : Nat) : Bool := l.any fun x => Nat.beq x.1 r && !x.2
def callEnd (st st1 : St) (d : Nat) (s : Sig) (R : List Nat) : St :=
  let st2 := setRs (R.zip (postRs st.nx s.m s.rs.length s.ps)) (st1.bind s.r)
  { st2 with roots := st2.roots ++ resRs st.nx s.m 0 st.nr s.rs, dirty := [] }.put d (resSV (resCs st.nx s.m 0 st.nr s.rs))
def callV (st : St) (d : Nat) (s : Sig) (vs : List SV) : M Step := do
    let R ← callRoots st s.ps vs
    let xs ← callArgs st R s.ps vs
    let fl := s.flags
    let st1 := killR (R.zip fl) st
    if ¬ (nodup R ∧ R.length = fl.length ∧ (postRs st.nx s.m s.rs.length s.ps).length = R.length ∧ R.all (fun r => Nat.blt r st.nr) ∧ s.rs.all (fun r => r.ty.flat2) ∧ (s.ps.flatMap Par.io).all Ty.flat2 ∧
      st1.okR (fun r => Nat.blt r st.nr && !goneR (R.zip fl) r) (fun r => Nat.blt r st.nr && !R.contains r) ∧ st.fix.all (fun r => Nat.blt r st.nr && !goneR (R.zip fl) r) ∧ st1.nr = st.nr ∧ st1.wf ∧ vs.length = s.ps.length ∧ st.dirty.isEmpty) then .error "call roots" else
    .ok ⟨[(.call s.key xs, s.r)], callEnd st st1 d s R⟩
def binA : BinOp → Option BinA
  | .add => some .add | .sub => some .sub | .mul => some .mul | .and => some .and | .or => some .or | .xor => some .xor | _ => none
def cmpA : BinOp → Option CmpA
  | .eql => some .eq | .neq => some .ne | .lss => some .lt | .leq => some .le | .gtr => some .gt | .geq => some .ge | _ => none
def step1 (st : St) (d : Nat) (e : Ex) (t : Ty) (mk : At → SV) : Step := ⟨[(e, t)], (st.bind t).put d (mk st.ref)⟩
/-- Cells as a type's value in an owned list: what each cell gives, and the roots that are taken in. -/
def St.takeCells (st : St) (inner : Option Rg) : List Ty → List SC → M (List At × List Nat)
  | [], [] => .ok ([], [])
  | .sl e a :: ts, c :: cs => do
    let (xs, rs) ← st.takeCells inner ts cs
    match inner, c with
    | none, .nil => .ok (.nil (.sl e a) :: xs, rs)
    | none, .h r => match st.rk r with
      | .list e' a' val _ none => if e = e' ∧ a = a' ∧ a.flat ∧ !rs.contains r ∧ !st.fix.contains r then .ok (val :: xs, r :: rs) else .error "taken cells type"
      | _ => .error "taken cells root"
    | some rg, .s rg' x => if rg = rg' ∧ x.ty st.ts = some (.sl e a) then .ok (x :: xs, rs) else .error "taken cells region"
    | _, _ => .error "taken cells slice"
  | t :: ts, c :: cs => do
    let (xs, rs) ← st.takeCells inner ts cs
    match c with
    | .v x => if x.ty st.ts = some t then .ok (x :: xs, rs) else .error "taken cells atom type"
    | _ => .error "taken cells atom"
  | _, _ => .error "taken cells number"
def killAll (all : Bool) : List Nat → St → St
  | [], st => st
  | r :: rs, st => killAll all rs ((st.kill all r).setR r .dead)
def Ty.cellTy (t : Ty) (k m : Nat) : List Ty := (t.leaves.drop k).take m
/-- The parts of a slice literal. -/
def parts (st : St) (a : Ty) : List Operand → M (List (List At))
  | [] => .ok []
  | o :: os => do
    let v ← st.val o
    let cs ← st.cells v
    let x ← st.takeCells none a.leaves cs
    let ys ← parts st a os
    .ok (x.1 :: ys)
def inOrder : Nat → List (Nat × Operand) → Bool
  | _, [] => true
  | k, (i, _) :: l => Nat.beq i k && inOrder (k + 1) l
def placesOf (P : Program) (t : TypeId) : Option (List (Nat × Nat)) := match P.underlying t with
  | some (.struct fields) => fields.toList.mapM (fun f => (P.info? f.type).map fun i => (f.offset, i.size))
  | _ => none
def buildParts (st : St) (places : List (Nat × Nat)) : List (Nat × Operand) → List SC → M (List SC)
  | [], cs => .ok cs
  | (i, o) :: ps, cs => do
    let v ← st.val o
    let xs ← st.cells v
    match places[i]? with
    | some (off, sz) => if xs.length = sz ∧ off + sz ≤ cs.length then buildParts st places ps (splice cs off xs) else .error "build size"
    | none => .error "build field"
/-- A nil slice in a slot or cell made an owned list. -/
def SV.isNil : SV → Bool
  | .c .nil => true
  | _ => false
def zeroC : Value → SC
  | .int k z => .v (.int k z)
  | .bool b => .v (.bool b)
  | .slice none 0 0 => .nil
  | _ => .gone
def zeroSC (P : Program) (e : TypeId) : Option (List SC) := match P.info? e with
  | some i => match i.zero with
    | some z => some (z.cells.toList.map zeroC)
    | none => none
  | none => none
def zeroN (P : Program) (e : TypeId) : Option Nat := match zeroSC P e with
  | some cs => some cs.length
  | none => none
def srcBad (r : Nat) : SC → Bool
  | .h r2 => Nat.beq r2 r
  | .s (some r2) _ => Nat.beq r2 r
  | .hn r2 _ _ _ => Nat.beq r2 r
  | .hs r2 _ _ _ => Nat.beq r2 r
  | _ => false
/-- Onto an owned list of flat elements: the elements are copied. -/
def appFlat (P : Program) (st : St) (d : Nat) (t : TypeId) (r : Nat) (y : SV) : M Step := match elemOf P t, st.rk r with
  | some e, .list e' a val nl none =>
    if ¬ (e = e' ∧ a.flat ∧ !st.fix.contains r ∧ val.ty st.ts = some (.sl e a) ∧ a.n = szOf P e ∧ 0 < a.n ∧ 0 < bytesOf P e ∧ zeroN P e = some a.n) then .error "append destination type" else
    match y with
    | .c .nil => .ok ⟨[], st.put d (.c (.h r))⟩
    | .c src => do
      let v ← st.listVal src
      let tv ← st.ty v
      if ¬ (tv = .sl e a ∧ !srcBad r src) then .error "append source type" else
      .ok ⟨[(.app (bytesOf P e) val v, .sl e a)], ((((st.bind (.sl e a)).kill true r).setR r (.list e a (.r ⟨st.nx, []⟩) nl none)).put d (.c (.h r)))⟩
    | _ => .error "append source"
  | _, _ => .error "append no list"
/-- A nil slice taken for an owned list. -/
def adoptNew (st : St) (e : TypeId) (a : Ty) : St := st.push (.list e a (.nil (.sl e a)) true none)
def stepAppend (P : Program) (st : St) (d : Nat) (t : TypeId) (x y : SV) : M Step := match x with
  | .c .nil => match elemOf P t with
    | some e => match tyId P 8 e with
      | some a => if !((adoptNew st e a).wf && (adoptNew st e a).rok) then .error "append roots" else appFlat P (adoptNew st e a) d t st.nr y
      | none => .error "append element type"
    | none => .error "append type"
  | .c (.h r) => appFlat P st d t r y
  | _ => .error "append destination"

def optAtom (st : St) : Option Operand → M (Option At)
  | none => .ok none
  | some o => do let (_, x) ← st.intOf o; .ok (some x)
def St.clean (st : St) : SV → Bool
  | .c (.h r) => !st.dirty.contains (r, false)
  | .ad r _ _ _ => !st.dirty.contains (r, false)
  | .c (.rp (some r) _) | .ra (some r) _ => !st.dirty.contains (r, false) && !st.dirty.contains (r, true)
  | _ => true
def loadCells' (P : Program) (t : TypeId) (cells : List SC) : M SV :=
  match aggOf P t with
  | some true => if (cells.take (szOf P t)).length = szOf P t ∧ 0 < szOf P t then .ok (.agg (cells.take (szOf P t))) else .error "load size"
  | some false => match cells with
    | c :: _ => .ok (.c c)
    | [] => .error "load no cell"
  | none => .error "load type"
mutual
def SC.beq : SC → SC → Bool
  | .v x, .v y => decide (x = y)
  | .s rg x, .s rg' y => decide (rg = rg' ∧ x = y)
  | .nil, .nil => true
  | .h r, .h r' => Nat.beq r r'
  | .hn r i k x, .hn r' i' k' x' => decide (r = r' ∧ i = i' ∧ k = k' ∧ x = x')
  | .hs r lo hi x, .hs r' lo' hi' x' => decide (r = r' ∧ lo = lo' ∧ hi = hi' ∧ x = x')
  | .rp rg cs, .rp rg' cs' => decide (rg = rg') && beqL cs cs'
  | .fn f cs, .fn f' cs' => decide (f = f') && beqL cs cs'
  | _, _ => false
def beqL : List SC → List SC → Bool
  | [], [] => true
  | c :: cs, d :: ds => c.beq d && beqL cs ds
  | _, _ => false
end

/-! ### The operations, one by one -/
def stepMove (st : St) (d : Nat) (x : Operand) : M Step := do
  let v ← st.val x
  .ok ⟨[], st.put d v⟩
def stepAssign (st : St) (d : Nat) (x : Operand) : M Step := do
  let v ← st.val x
  match v with
  | .c (.hs _ _ _ _) => .error "assign slice"
  | v => .ok ⟨[], st.put d v⟩
/-- An owned list cut down to a part of it. -/
def commitSt (P : Program) (st : St) (r : Nat) (xx : At) : M St := match st.rk r with
  | .list e a _ _ none => if a.flat ∧ xx.ty st.ts = some (.sl e a) ∧ a.n = szOf P e ∧ 0 < a.n ∧ !st.fix.contains r ∧ st.rok then .ok ((st.kill true r).setR r (.list e a xx false none)) else .error "reslice type"
  | _ => .error "reslice root"
def stepAssign' (P : Program) (st : St) (d : Nat) (x : Operand) : M Step := do
  let v ← st.val x
  match v with
  | .c (.hs r _ _ xx) => do
    let st1 ← commitSt P st r xx
    .ok ⟨[], st1.put d (.c (.h r))⟩
  | _ => stepAssign st d x
def stepPick (st : St) (d : Nat) (c x y : Operand) : M Step := do
  let v ← st.val c
  match v with
  | .c (.v (.bool b)) => do
    let u ← st.val (if b then x else y)
    .ok ⟨[], st.put d u⟩
  | _ => .error "pick unknown"
def stepBinInt (st : St) (d : Nat) (op : BinOp) (k k' : IntKind) (x y : At) : M Step := match op with
  | .shl => .ok (step1 st d (.shift true k x y) (.int k) (.c ∘ .v))
  | .shr => .ok (step1 st d (.shift false k x y) (.int k) (.c ∘ .v))
  | _ =>
    if k ≠ k' then .error "binOp kinds" else
    match binA op with
    | some b => .ok (step1 st d (.bin b k x y) (.int k) (.c ∘ .v))
    | none => match cmpA op with
      | some c => .ok (step1 st d (.cmp c k x y) .bool (.c ∘ .v))
      | none => match op with
        | .quo => .ok (step1 st d (.div k x y) (.int k) (.c ∘ .v))
        | .rem => .ok (step1 st d (.rem k x y) (.int k) (.c ∘ .v))
        | _ => .error "binOp"
def stepBinBool (st : St) (d : Nat) (op : BinOp) (x y : At) : M Step := match op with
  | .eql => .ok (step1 st d (.beq false x y) .bool (.c ∘ .v))
  | .neq => .ok (step1 st d (.beq true x y) .bool (.c ∘ .v))
  | _ => .error "binOp bools"
def stepBinNil (st : St) (d : Nat) (op : BinOp) (x : SC) : M Step := match x with
  | .nil => match op with
    | .eql => .ok ⟨[], st.put d (.c (.v (.bool true)))⟩
    | .neq => .ok ⟨[], st.put d (.c (.v (.bool false)))⟩
    | _ => .error "binOp nil"
  | .h r => match op, st.rk r with
    | .eql, .list e a v nl _ => if v.ty st.ts = some (.sl e a) then .ok (step1 st d (.isnil nl v) .bool (.c ∘ .v)) else .error "binOp nil type"
    | _, _ => .error "binOp nil"
  | _ => .error "binOp nil"
def stepBin (P : Program) (st : St) (d : Nat) (op : BinOp) (t : TypeId) (x y : Operand) : M Step := do
  let vx ← st.val x
  let vy ← st.val y
  match vx, vy with
  | .c (.v x), .c (.v y) => do
    let tx ← st.ty x
    let ty ← st.ty y
    match tx, ty with
    | .int k, .int k' => stepBinInt st d op k k' x y
    | .bool, .bool => match P.underlying t with
      | some .bool => stepBinBool st d op x y
      | _ => .error "binOp no bool"
    | _, _ => .error "binOp types"
  | .c c, .c .nil => match elemOf P t with
    | some _ => stepBinNil st d op c
    | none => .error "binOp no slice"
  | a, b => .error "binOp operands"
def stepNot (st : St) (d : Nat) (x : Operand) : M Step := do
  let x ← st.boolOf x
  match x with
  | .bool b => .ok ⟨[], st.put d (.c (.v (.bool (!b))))⟩
  | x => .ok (step1 st d (.not x) .bool (.c ∘ .v))
def stepNeg (st : St) (d : Nat) (x : Operand) : M Step := do
  let (k, x) ← st.intOf x
  .ok (step1 st d (.neg k x) (.int k) (.c ∘ .v))
def stepConv (P : Program) (st : St) (d : Nat) (s t : TypeId) (x : Operand) : M Step := do
  let (k, x) ← st.intOf x
  match P.underlying s, P.underlying t with
  | some (.int k1), some (.int k2) => if k = k1 then .ok (step1 st d (.conv k k2 x) (.int k2) (.c ∘ .v)) else .error "convert kind"
  | _, _ => .error "convert"
def stepNilCheck (st : St) (d : Nat) (x : Operand) : M Step := do
  let v ← st.val x
  match v with
  | .c (.h r) => match st.rk r with
    | .box _ _ => .ok ⟨[], st.put d (.c (.h r))⟩
    | _ => .error "nilCheck"
  | .c (.rp rg cells) => .ok ⟨[], st.put d (.c (.rp rg cells))⟩
  | v => .error "nilCheck"
def stepExtract (st : St) (d : Nat) (x : Operand) (i : Nat) : M Step := do
  let v ← st.val x
  match v with
  | .tup rs => match rs[i]? with
    | some (false, [c]) => .ok ⟨[], st.put d (.c c)⟩
    | some (true, cs) => .ok ⟨[], st.put d (.agg cs)⟩
    | _ => .error "extract"
  | _ => .error "extract no tuple"
def zeroIs (P : Program) (e : TypeId) (a : Ty) : Bool := match zeroSC P e with
  | some cs => beqL cs (zeroCells a)
  | none => false
def stepAlloc (P : Program) (st : St) (d : Nat) (e : TypeId) : M Step := match zeroSC P e with
  | some cs => if cs.length = szOf P e ∧ 0 < szOf P e then .ok ⟨[], (st.push (.box e cs)).put d (.c (.h st.nr))⟩ else .error "alloc size"
  | none => .error "alloc type"
def stepBox (P : Program) (st : St) (d : Nat) (e : TypeId) (x : Operand) : M Step := do
  let v ← st.val x
  let cs ← st.cells v
  if ¬ (cs.length = szOf P e ∧ 0 < szOf P e) then .error "box size" else
  .ok ⟨[], (st.push (.box e cs)).put d (.c (.h st.nr))⟩
def stepBuild (P : Program) (st : St) (d : Nat) (t : TypeId) (ps : List (Nat × Operand)) : M Step := match zeroSC P t, placesOf P t with
  | some zs, some places => do
    let cs ← buildParts st places ps zs
    .ok ⟨[], st.put d (.agg cs)⟩
  | _, _ => .error "build type"
def stepBuildSlice (P : Program) (st : St) (d : Nat) (t : TypeId) (n : Nat) (ps : List (Nat × Operand)) : M Step := match elemOf P t with
  | none => .error "buildSlice type"
  | some e => match tyId P 8 e with
    | none => .error "buildSlice element"
    | some a =>
      if n = 0 then (if a.flat1 ∧ ps.length = 0 ∧ 0 < szOf P e then .ok ⟨[], (st.push (.list e a (.nil (.sl e a)) false none)).put d (.c (.h st.nr))⟩ else .error "buildSlice empty") else
      if ¬ (a.flat ∧ inOrder 0 ps ∧ ps.length = n ∧ a.n = szOf P e ∧ 0 < a.n ∧ n * a.n ≤ 16777216 ∧ 0 < n ∧ (zeroN P e).isSome) then .error "buildSlice form" else do
      let ys ← parts st a (ps.map (·.2))
      .ok ⟨[(.lst e a ys, .sl e a)], ((st.bind (.sl e a)).push (.list e a st.ref true none)).put d (.c (.h st.nr))⟩
def stepMake (P : Program) (st : St) (d : Nat) (t : TypeId) (x y : Operand) : M Step := do
  let (k, x) ← st.intOf x
  let (k', y) ← st.intOf y
  match elemOf P t with
  | none => .error "make type"
  | some e => match tyId P 8 e with
    | none => .error "make element"
    | some a =>
      if ¬ (k = .i64 ∧ k' = .i64 ∧ x = y ∧ a.flat1 ∧ a.n = szOf P e ∧ 0 < a.n ∧ zeroIs P e a) then .error "make form" else
      .ok ⟨[(.make (bytesOf P e) e a x, .sl e a)], ((st.bind (.sl e a)).push (.list e a st.ref false none)).put d (.c (.h st.nr))⟩
def svC : SV → M SC
  | .c x => .ok x
  | _ => .error "makeFunc capture"
def stepMakeFunc (st : St) (d : Nat) (f : FuncId) (first caps : Array Operand) : M Step := do
  if first.size ≠ 0 then .error "makeFunc" else
  let vs ← caps.toList.mapM st.val
  let cs ← vs.mapM svC
  .ok ⟨[], st.put d (.c (.fn f cs))⟩
/-- A map from ints to bools: the key's and the element's types. -/
def mapT (P : Program) (t : TypeId) : Option (TypeId × TypeId) := match P.underlying t with
  | some (.map k e) => match P.underlying k, P.info? e with
    | some (.int .i64), some i => match i.zero with
      | some (.bool false) => some (k, e)
      | _ => none
    | _, _ => none
  | _ => none
def stepLookup (P : Program) (st : St) (d : Nat) (t : TypeId) (x i : Operand) : M Step := do
  let (k, i) ← st.intOf i
  let vx ← st.val x
  match vx with
  | .c (.h r) => match st.rk r with
    | .mp v => if (mapT P t).isSome ∧ k = .i64 ∧ v.ty st.ts = some .mp ∧ st.clean vx then .ok (step1 st d (.mget v i) .bool (.c ∘ .v)) else .error "lookup type"
    | _ => .error "lookup"
  | _ => .error "lookup"
def stepMapUpdate (P : Program) (st : St) (t : TypeId) (m k x : Operand) : M Step := do
  let (kk, k) ← st.intOf k
  let x ← st.boolOf x
  let vm ← st.val m
  match vm with
  | .c (.h r) => match st.rk r with
    | .mp v => if (mapT P t).isSome ∧ kk = .i64 ∧ v.ty st.ts = some .mp ∧ st.dirty.isEmpty then .ok ⟨[(.mset v k x, .mp)], (((st.bind .mp).kill false r).setR r (.mp st.ref))⟩ else .error "mapUpdate type"
    | _ => .error "mapUpdate"
  | _ => .error "mapUpdate"
def elemCells (inner : Option Rg) (r : Nat) (i : At) (n : Nat) (a : Ty) : List SC := match inner with
  | some rg => cellsOf rg n [] a
  | none => cellsOfN r i n 0 [] a
def stepLoad (P : Program) (st : St) (d : Nat) (t : TypeId) (x : Operand) : M Step := do
  let vx ← st.val x
  if !st.clean vx then .error "load dirty" else
  match vx with
  | .c (.h r) => match st.rk r with
    | .box _ cells => do
      let v ← loadCells' P t cells
      .ok ⟨[], st.put d v⟩
    | _ => .error "load root"
  | .c (.rp _ cells) => do
    let v ← loadCells' P t cells
    .ok ⟨[], st.put d v⟩
  | .ra _ cells => do
    let v ← loadCells' P t cells
    .ok ⟨[], st.put d v⟩
  | .ad r e i k => match st.rk r with
    | .box e' cells => if e ≠ e' ∨ i ≠ .int .i64 0 then .error "load box" else do
      let v ← loadCells' P t (cells.drop k)
      .ok ⟨[], st.put d v⟩
    | .list e' a v _ inner => if e ≠ e' ∨ v.ty st.ts ≠ some (.sl e' a) ∨ a.n ≠ szOf P e' ∨ (inner = none ∧ a.flat1 = false) ∨ !i.lt st.ts.length then .error "load type" else do
      let u ← loadCells' P t ((elemCells inner r i st.nx a).drop k)
      .ok ⟨[(.get v i, a)], (st.bind a).put d u⟩
    | _ => .error "load root"
  | v => .error "load address"
def oldAtoms (n : Nat) (a : Ty) : List At := (pathsOf [] a).map fun p => .r ⟨n, p⟩
/-! ### Elements with slices of their own -/
def isDead : RK → Bool
  | .dead => true
  | _ => false
def St.dirtyTo (st : St) (r : Nat) : Bool := st.dirty.isEmpty || (st.dirty.contains (r, true) && Nat.blt 1 st.dirty.length)
/-- Root r0's region and the roots rs are spoken of no more. -/
def St.freed (st : St) (r0 : Nat) (rs : List Nat) : Bool :=
  nodup rs && !rs.contains r0 && rs.all (fun r => isDead (st.rk r)) && isDead (st.rk r0) && st.okR (fun r => Nat.blt r st.nr) (fun r => Nat.blt r st.nr && !Nat.beq r r0 && !rs.contains r)
/-- Cells as a value's leaves: each one's atom, and the root that is taken in. -/
def St.takeN (st : St) (r0 : Nat) : List Ty → List SC → M (List (At × Option Nat))
  | [], [] => .ok []
  | t :: ts, c :: cs => do
    let l ← st.takeN r0 ts cs
    match t, c with
    | .sl e a, .nil => .ok ((.nil (.sl e a), none) :: l)
    | .sl e a, .h r => match st.rk r with
      | .list e' a' val _ none => if e = e' ∧ a = a' ∧ a.flat ∧ val.ty st.ts = some (.sl e a) ∧ !Nat.beq r r0 ∧ !st.fix.contains r then .ok ((val, some r) :: l) else .error "taken cells type"
      | _ => .error "taken cells root"
    | t, .v x => if t.scalar ∧ x.ty st.ts = some t then .ok ((x, none) :: l) else .error "taken cells atom type"
    | _, _ => .error "taken cells cell"
  | _, _ => .error "taken cells number"
def takenOf (l : List (At × Option Nat)) : List Nat := l.filterMap (·.2)
def St.strike (st : St) (rs : List Nat) : St := killR (rs.map fun r => (r, false)) st
def storeNest (P : Program) (st : St) (t : TypeId) (cs : List SC) (r : Nat) (ex : TypeId) (i : At) (k : Nat) (e : TypeId) (a : Ty) (v : At) (nl : Bool) : M Step := do
  let l ← st.takeN r (a.cellTy k cs.length) cs
  let st3 := ((st.bind a).bind a).bind (.sl e a)
  let st5 := ((st3.kill false r).setR r .dead).strike (takenOf l)
  if ¬ (cs.length = szOf P t ∧ 0 < szOf P t ∧ ex = e ∧ a.flat1 ∧ v.ty st.ts = some (.sl e a) ∧ i.lt st.ts.length ∧ k + cs.length ≤ a.n ∧ a.n = szOf P e ∧ st.dirtyTo r ∧ st5.freed r (takenOf l) ∧ st5.nr = st.nr ∧ st3.wf ∧ st.rok ∧ st.wf) then .error "store inner" else
  .ok ⟨[(.get v i, a), (.mk a (splice (oldAtoms st.nx a) k (l.map (·.1))), a), (.set v i (.r ⟨st.nx + 1, []⟩), .sl e a)], st5.setR r (.list e a (.r ⟨st.nx + 2, []⟩) nl none)⟩
/-- An address within an element with slices of its own. -/
def nestOf (st : St) (m : Nat) : SV → Option (Nat × TypeId × At × Nat × TypeId × Ty × At × Bool)
  | .ad r ex i k => match st.rk r with
    | .list e a v nl none => if a.flat then none else some (r, ex, i, k, e, a, v, nl)
    | .listH e a v nl i' k' => if i' = i ∧ k ≤ k' ∧ k' < k + m then some (r, ex, i, k, e, a, v, nl) else none
    | _ => none
  | _ => none
/-- An address within a hole's element, its index another atom. -/
def sameOf (st : St) (m : Nat) : SV → Option (Nat × TypeId × At × Nat × TypeId × Ty × At × Bool × At)
  | .ad r ex i k => match st.rk r with
    | .listH e a v nl i' k' => if k ≤ k' ∧ k' < k + m then some (r, ex, i, k, e, a, v, nl, i') else none
    | _ => none
  | _ => none
/-- Root r's element i gives up its slice at cell k: a root of its own (number nr); the list keeps a hole. -/
def St.takeOut (st : St) (r : Nat) (i : At) (k : Nat) : M (List (Ex × Ty) × St) := match st.rk r with
  | .list e b v nl none => match b.leaves[k]?, (pathsOf [] b)[k]? with
    | some (.sl e' a), some p =>
      let st1 := st.bind b
      let st2 := (st1.kill false r).setR r (.listH e b v nl i k)
      if ¬ (b.flat1 ∧ a.flat ∧ v.ty st.ts = some (.sl e b) ∧ i.lt st.ts.length ∧ st.wf ∧ st.rok ∧ Nat.blt r st.nr ∧ st.dirty.all (fun p => Nat.blt p.1 st.nr) ∧ st2.okR (fun r' => Nat.blt r' st.nr) (fun r' => Nat.blt r' st.nr && !Nat.beq r' r)) then .error "take out" else
      .ok ([(.get v i, b)], { st2.push (.list e' a (.r ⟨st.nx, p⟩) false none) with dirty := if st.dirty.isEmpty then [] else st.dirty ++ [(st.nr, false)] })
    | _, _ => .error "take out no slice"
  | _ => .error "take out no list"
def buildNest (P : Program) (st : St) (d : Nat) (e : TypeId) (a : Ty) : List (Nat × Operand) → M Step
  | [(0, o)] => do
    let v ← st.val o
    let cs ← st.cells v
    let l ← st.takeN st.nr a.leaves cs
    let st3 := (((st.bind (.sl e a)).push .dead).put d (.c (.h st.nr))).strike (takenOf l)
    if ¬ (a.flat1 ∧ a.n = szOf P e ∧ 0 < a.n ∧ a.n ≤ 16777216 ∧ (zeroN P e).isSome ∧ st3.freed st.nr (takenOf l) ∧ st3.nr = st.nr + 1 ∧ st.dirty.isEmpty) then .error "buildSlice inner" else
    .ok ⟨[(.lst e a [l.map (·.1)], .sl e a)], st3.setR st.nr (.list e a st.ref true none)⟩
  | _ => .error "buildSlice parts"
def stepBuildSlice' (P : Program) (st : St) (d : Nat) (t : TypeId) (n : Nat) (ps : List (Nat × Operand)) : M Step := match elemOf P t with
  | some e => match tyId P 8 e with
    | some a => if n = 1 ∧ a.flat = false then buildNest P st d e a ps else stepBuildSlice P st d t n ps
    | none => .error "buildSlice element"
  | none => .error "buildSlice type"
def appNest (P : Program) (st : St) (d : Nat) (t : TypeId) (r : Nat) (r3 : Nat) : M Step := match elemOf P t, st.rk r, st.rk r3 with
  | some e, .list e1 a v nl none, .list e3 a3 v3 _ none =>
    let st4 := ((((st.bind (.sl e a)).kill true r).setR r .dead).strike [r3]).put d (.c (.h r))
    if ¬ (e1 = e ∧ e3 = e ∧ a3 = a ∧ a.flat1 ∧ v.ty st.ts = some (.sl e a) ∧ v3.ty st.ts = some (.sl e a) ∧ !st.fix.contains r ∧ !st.fix.contains r3 ∧ a.n = szOf P e ∧ 0 < a.n ∧ 0 < bytesOf P e ∧ zeroN P e = some a.n ∧ st4.freed r [r3] ∧ st4.nr = st.nr ∧ st.dirty.isEmpty) then .error "append inner" else
    .ok ⟨[(.app (bytesOf P e) v v3, .sl e a)], st4.setR r (.list e a (.r ⟨st.nx, []⟩) nl none)⟩
  | _, _, _ => .error "append inner lists"
def stepAppNest (P : Program) (st : St) (d : Nat) (t : TypeId) (x y : SV) : M Step := match x, y with
  | .c .nil, .c (.h r3) => match elemOf P t with
    | some e => match tyId P 8 e with
      | some a => if !((adoptNew st e a).wf && (adoptNew st e a).rok) then .error "append roots" else appNest P (adoptNew st e a) d t st.nr r3
      | none => .error "append element type"
    | none => .error "append type"
  | .c (.h r), .c (.h r3) => appNest P st d t r r3
  | _, _ => .error "append inner source"
def stepStore0 (P : Program) (st : St) (t : TypeId) (x y : Operand) : M Step := do
  let vy ← st.val y
  let cs ← st.cells vy
  if ¬ (cs.length = szOf P t ∧ 0 < szOf P t ∧ st.dirty.isEmpty) then .error "store size" else
  let vx ← st.val x
  match vx with
  | .c (.h r) => match st.rk r with
    | .box e cells => if cells.length = cs.length then .ok ⟨[], (st.kill false r).setR r (.box e (splice (killL false r cells) 0 (killL false r cs)))⟩ else .error "store box"
    | _ => .error "store root"
  | .ad r ex i k => match st.rk r with
    | .box e cells => if k + cs.length ≤ cells.length ∧ ex = e ∧ i = .int .i64 0 then .ok ⟨[], (st.kill false r).setR r (.box e (splice (killL false r cells) k (killL false r cs)))⟩ else .error "store box"
    | .list e a v nl none =>
      if ¬ (ex = e ∧ a.flat ∧ v.ty st.ts = some (.sl e a) ∧ i.lt st.ts.length ∧ k + cs.length ≤ a.n ∧ a.n = szOf P e) then .error "store type" else do
      let (xs, rs) ← st.takeCells none (a.cellTy k cs.length) cs
      .ok ⟨[(.get v i, a), (.mk a (splice (oldAtoms st.nx a) k xs), a), (.set v i (.r ⟨st.nx + 1, []⟩), .sl e a)], (((((st.bind a).bind a).bind (.sl e a)).kill false r).setR r (.list e a (.r ⟨st.nx + 2, []⟩) nl none))⟩
    | _ => .error "store root"
  | v => .error "store address"
def stepStore (P : Program) (st : St) (t : TypeId) (x y : Operand) : M Step := do
  let vy ← st.val y
  let cs ← st.cells vy
  let vx ← st.val x
  match nestOf st cs.length vx with
  | some q => storeNest P st t cs q.1 q.2.1 q.2.2.1 q.2.2.2.1 q.2.2.2.2.1 q.2.2.2.2.2.1 q.2.2.2.2.2.2.1 q.2.2.2.2.2.2.2
  | none => match sameOf st cs.length vx with
    | some (r, ex, i, k, e, a, v, nl, i') => do
      if ¬ (i.lt st.ts.length ∧ i'.lt st.ts.length ∧ st.wf) then .error "store index" else
      let vy0 ← (st.bind .unit).val y
      let cs0 ← (st.bind .unit).cells vy0
      if cs0.length ≠ cs.length then .error "store cells" else
      let s ← storeNest P (st.bind .unit) t cs0 r ex i' k e a v nl
      .ok ⟨(.same i i', .unit) :: s.es, s.st⟩
    | none => stepStore0 P st t x y
def stepFieldAddr (P : Program) (st : St) (d : Nat) (t : TypeId) (x : Operand) (fi : Nat) : M Step := match fldOf P t fi with
  | none => .error "fieldAddr"
  | some (off, sz) =>
    if sz = 0 then .error "fieldAddr size" else do
    let v ← st.val x
    match v with
    | .c (.h r) => match st.rk r with
      | .box e _ => .ok ⟨[], st.put d (.ad r e (.int .i64 0) off)⟩
      | _ => .error "fieldAddr root"
    | .ad r e i k => .ok ⟨[], st.put d (.ad r e i (k + off))⟩
    | .ra rg cells => .ok ⟨[], st.put d (.ra rg (cells.drop off))⟩
    | .c (.rp rg cells) => .ok ⟨[], st.put d (.ra rg (cells.drop off))⟩
    | v => .error "fieldAddr"
def stepField (P : Program) (st : St) (d : Nat) (t : TypeId) (x : Operand) (fi : Nat) : M Step := match fldOf P t fi with
  | none => .error "field"
  | some (off, sz) => do
    let v ← st.val x
    match v with
    | .agg cells => match P.underlying t with
      | some (.struct fs) => match fs[fi]? with
        | some f =>
          do
          let u ← loadCells' P f.type (cells.drop off)
          .ok ⟨[], st.put d u⟩
        | none => .error "field"
      | _ => .error "field"
    | _ => .error "field no struct"
def regOf : SC → Rg
  | .s rg _ => rg
  | .hn r _ _ _ => some r
  | .hs r _ _ _ => some r
  | _ => none
def stepIndexAddr (P : Program) (st : St) (d : Nat) (t : TypeId) (x i : Operand) : M Step := do
  let (k, i) ← st.intOf i
  if k ≠ .i64 then .error "indexAddr kind" else
  let vx ← st.val x
  match vx with
  | .c (.h r) => match st.rk r with
    | .list e a v _ _ => if elemOf P t = some e ∧ a.n = szOf P e ∧ 0 < a.n ∧ v.ty st.ts = some (.sl e a) then .ok ⟨[(.idx v i, .unit)], (st.bind .unit).put d (.ad r e i 0)⟩ else .error "indexAddr type"
    | .listH e a v _ _ _ => if elemOf P t = some e ∧ a.n = szOf P e ∧ 0 < a.n ∧ v.ty st.ts = some (.sl e a) then .ok ⟨[(.idx v i, .unit)], (st.bind .unit).put d (.ad r e i 0)⟩ else .error "indexAddr type"
    | _ => .error "indexAddr root"
  | .c c => do
    let v ← st.listVal c
    let tv ← st.ty v
    match tv with
    | .sl _ a => match elemOf P t with
      | some e =>
        if ¬ (a.n = szOf P e ∧ 0 < a.n) then .error "indexAddr size" else
        .ok ⟨[(.get v i, a)], (st.bind a).put d (.ra (regOf c) (cellsOf (regOf c) st.nx [] a))⟩
      | none => .error "indexAddr no slice"
    | _ => .error "indexAddr type"
  | _ => .error "indexAddr"
def stepSlice (P : Program) (st : St) (d : Nat) (t : TypeId) (x : Operand) (lo hi : Option Operand) : M Step := do
  let lo ← optAtom st lo
  let hi ← optAtom st hi
  let vx ← st.val x
  match vx with
  | .c c => do
    let v ← st.listVal c
    let tv ← st.ty v
    match tv, elemOf P t with
    | .sl e' a, some e =>
      if ¬ (a.n = szOf P e ∧ 0 < a.n) then .error "slice size" else
      match c with
      | .s rg _ => .ok ⟨[(.slice v lo hi, .sl e' a)], (st.bind (.sl e' a)).put d (.c (.s rg st.ref))⟩
      | .h r => match st.rk r with
        | .list e2 a2 _ _ none => if a2.flat1 ∧ e2 = e' ∧ a2 = a then .ok ⟨[(.slice v lo hi, .sl e' a)], (st.bind (.sl e' a)).put d (.c (.hs r lo hi st.ref))⟩ else .error "slice own"
        | _ => .error "slice root"
      | .hn r _ _ _ => .ok ⟨[(.slice v lo hi, .sl e' a)], (st.bind (.sl e' a)).put d (.c (.s (some r) st.ref))⟩
      | _ => .error "slice of what"
    | _, _ => .error "slice type"
  | _ => .error "slice"
def stepLen (P : Program) (st : St) (d : Nat) (t : TypeId) (x : Operand) : M Step := match elemOf P t with
  | none => .error "len type"
  | some _ => do
    let v ← st.val x
    match v with
    | .c .nil => .ok ⟨[], st.put d (.c (.v (.int .i64 0)))⟩
    | .c y => do
      let v ← st.listVal y
      let tv ← st.ty v
      match tv with
      | .sl _ _ => .ok (step1 st d (.len v) (.int .i64) (.c ∘ .v))
      | _ => .error "len of what"
    | _ => .error "len"
def stepMinMax (mn : Bool) (st : St) (d : Nat) (x y : Operand) : M Step := do
  let (k, x) ← st.intOf x
  let (k', y) ← st.intOf y
  if k = k' ∧ k = .i64 then .ok (step1 st d (if mn then .min k x y else .max k x y) (.int k) (.c ∘ .v)) else .error "min max"
/-- x = append(x[:i], y..) where y is another part of x, or what else. -/
def appHole (P : Program) (st : St) (d : Nat) (t : TypeId) (r : Nat) (xx : At) (y : SV) : M Step := match y with
  | .c src => do
    let v2 ← st.listVal src
    let st1 ← commitSt P st r xx
    match elemOf P t, st1.rk r with
    | some e, .list e' a _ _ none =>
      if ¬ (e = e' ∧ v2.ty st.ts = some (.sl e a) ∧ xx.ty st.ts = some (.sl e a) ∧ 0 < bytesOf P e ∧ zeroN P e = some a.n ∧ st.wf ∧ st.dirty.isEmpty) then .error "append part" else
      .ok ⟨[(.app (bytesOf P e) xx v2, .sl e a)], (((st.bind (.sl e a)).kill true r).setR r (.list e a (.r ⟨st.nx, []⟩) false none)).put d (.c (.h r))⟩
    | _, _ => .error "append parts root"
  | _ => .error "append parts source"
/-- A list takes its slice back; its header has not turned. -/
def St.putBack (st : St) (r r2 : Nat) : M (List (Ex × Ty) × St) := match st.rk r, st.rk r2 with
  | .listH e b v nl i k, .list e2 b2 x _ none => match b.leaves[k]? with
    | some (.sl e' a') =>
      let st3 := ((st.bind b).bind b).bind (.sl e b)
      let st5 := ((st3.kill false r).setR r .dead).strike [r2]
      if ¬ (e2 = e' ∧ b2 = a' ∧ a'.flat ∧ x.ty st.ts = some (.sl e' a') ∧ b.flat1 ∧ v.ty st.ts = some (.sl e b) ∧ i.lt st.ts.length ∧ st.wf ∧ st.rok ∧ st.dirty.isEmpty ∧ !st.fix.contains r2 ∧ !Nat.beq r2 r ∧ st5.freed r [r2] ∧ st5.nr = st.nr) then .error "put back" else
      .ok ([(.get v i, b), (.mk b (splice (oldAtoms st.nx b) k [x]), b), (.set v i (.r ⟨st.nx + 1, []⟩), .sl e b)], st5.setR r (.list e b (.r ⟨st.nx + 2, []⟩) nl none))
    | _ => .error "put back leaf"
  | _, _ => .error "put back roots"
def callPre (st : St) (d : Nat) (s : Sig) (os : List Operand) (caps : List SC) (us : List SV) : M Step := match s.ps, us with
  | .own false (.sl e b) _ :: _, .c .nil :: _ => do
    let st1 := adoptNew st e b
    if ¬ (st1.wf ∧ st1.rok ∧ caps.isEmpty) then .error "call nil" else
    let us1 ← os.mapM st1.val
    callV st1 d s (.c (.h st.nr) :: us1.drop 1)
  | .own false (.sl _ _) true :: _, .c (.hn r i k _) :: _ => do
    let z ← st.takeOut r i k
    if ¬ (z.2.wf ∧ z.2.rok ∧ caps.isEmpty ∧ st.dirty.isEmpty) then .error "call inner" else
    let us1 ← os.mapM z.2.val
    let vs := .c (.h st.nr) :: us1.drop 1
    let R ← callRoots z.2 s.ps vs
    if ¬ (R.head? = some st.nr ∧ s.flags.head? = some true ∧ !R.contains r) then .error "call inner roots" else
    let x ← callV z.2 d s vs
    let y ← x.st.putBack r st.nr
    if (match x.st.rk r with | .listH _ _ _ _ i' k' => decide (i' = i ∧ k' = k) | _ => false) then .ok ⟨z.1 ++ (x.es ++ y.1), y.2⟩ else .error "call inner hole"
  | _, us => callV st d s (us ++ caps.map .c)
def stepCall (st : St) (ss : List Sig) (d : Nat) (f : FuncId) (os : List Operand) (caps : List SC) : M Step :=
  match findS st ss f os with
  | some s => if ¬ st.dirty.isEmpty then .error "call dirty" else do
    let us ← os.mapM st.val
    callPre st d s os caps us
  | none => .error "call no contract of"
def stepApp (P : Program) (st : St) (d : Nat) (t : TypeId) (x y : Operand) : M Step := do
  let vx ← st.val x
  match vx with
  | .c (.hn r i k _) => do
    let z ← st.takeOut r i k
    let vy ← z.2.val y
    if !(z.2.wf && z.2.rok) then .error "append state" else
    let s ← appFlat P z.2 d t st.nr vy
    .ok ⟨z.1 ++ s.es, s.st⟩
  | .c (.hs r _ _ xx) => do
    let vy ← st.val y
    appHole P st d t r xx vy
  | vx => do
    let vy ← st.val y
    match elemOf P t with
    | some e => match tyId P 8 e with
      | some a => if a.flat then stepAppend P st d t vx vy else stepAppNest P st d t vx vy
      | none => .error "append element type"
    | none => .error "append type"
def stepOp (P : Program) (ss : List Sig) (st : St) (o : Oper) : M Step :=
  match o.op, o.dst with
  | .move x, some d => stepMove st d x
  | .assign x, some d => stepAssign' P st d x
  | .pick c x y, some d => stepPick st d c x y
  | .binOp op t x y _, some d => stepBin P st d op t x y
  | .unOp .not _ x, some d => stepNot st d x
  | .unOp .neg _ x, some d => stepNeg st d x
  | .convert s t x, some d => stepConv P st d s t x
  | .nilCheck x, some d => stepNilCheck st d x
  | .extract x i, some d => stepExtract st d x i
  | .alloc e, some d => stepAlloc P st d e
  | .box e x, some d => stepBox P st d e x
  | .build t ps, some d => stepBuild P st d t ps.toList
  | .buildSlice t n ps, some d => stepBuildSlice' P st d t n ps.toList
  | .makeSlice t x y, some d => stepMake P st d t x y
  | .makeFunc (.func f) first caps, some d => stepMakeFunc st d f first caps
  | .makeMap _ none, some d => .ok ⟨[], (st.push (.mp (.nil .mp))).put d (.c (.h st.nr))⟩
  | .load t x, some d => stepLoad P st d t x
  | .lookup t x i false, some d => stepLookup P st d t x i
  | .mapUpdate t m k x, none => stepMapUpdate P st t m k x
  | .store t x y, none => stepStore P st t x y
  | .fieldAddr t x fi, some d => stepFieldAddr P st d t x fi
  | .field t x fi, some d => stepField P st d t x fi
  | .indexAddr t x i, some d => stepIndexAddr P st d t x i
  | .slice t x lo hi none, some d => stepSlice P st d t x lo hi
  | .call c, some d => match c.callee, c.args.toList, c.argTypes.toList with
    | .builtin .len, [x], [t] => stepLen P st d t x
    | .builtin .min, [x, y], _ => stepMinMax true st d x y
    | .builtin .max, [x, y], _ => stepMinMax false st d x y
    | .builtin .append, [x, y], [t, t'] => if t = t' then stepApp P st d t x y else .error "append types"
    | .value x, os, _ => do
      let v ← st.val x
      match v with
      | .c (.fn f caps) => stepCall st ss d f os caps
      | _ => .error "call of what"
    | _, _, _ => .error "call callee"
  | _, _ => .error "operation"
end Go.Pu
/-
  Own work. The translation of code: regions, loops with their heads, joins, functions.
-/
namespace Go.Pu
open Go Go.RowKit

/-! ### A jump: the present state met with a head -/
def SC.roots : SC → SC → List (Nat × Nat)
  | .h r, .h r' => [(r', r)]
  | .hn r _ _ _, .hn r' _ _ _ => [(r', r)]
  | .hs r _ _ _, .hs r' _ _ _ => [(r', r)]
  | .s (some r) _, .s (some r') _ => [(r', r)]
  | _, _ => []
def SV.roots : SV → SV → List (Nat × Nat)
  | .c x, .c y => x.roots y
  | .agg xs, .agg ys => (xs.zip ys).flatMap fun p => p.1.roots p.2
  | .ad r _ _ _, .ad r' _ _ _ => [(r', r)]
  | .ra (some r) _, .ra (some r') _ => [(r', r)]
  | .tup rs, .tup rs' => (rs.zip rs').flatMap fun p => (p.1.2.zip p.2.2).flatMap fun p => p.1.roots p.2
  | _, _ => []
def addPair (l : List (Nat × Nat)) (p : Nat × Nat) : List (Nat × Nat) := if l.contains p then l else l ++ [p]
def rootMap1 (H st : St) : List (Nat × Nat) := ((H.slots.zip st.slots).flatMap fun p => p.1.roots p.2).foldl addPair (st.fix.map fun r => (r, r))
def rootMapBox (H st : St) (σ : List (Nat × Nat)) : List (Nat × Nat) := (σ.flatMap fun p => match H.rk p.2, st.rk p.1 with
  | .box _ cs, .box _ ds => (cs.zip ds).flatMap fun q => q.1.roots q.2
  | .list _ _ _ _ (some (some r)), .list _ _ _ _ (some (some r')) => [(r', r)]
  | _, _ => []).foldl addPair σ
def rootMap (H st : St) : List (Nat × Nat) := rootMapBox H st (rootMapBox H st (rootMap1 H st))
def mapR (σ : List (Nat × Nat)) (r : Nat) : Option Nat := match σ with
  | [] => none
  | p :: σ => bif Nat.beq p.1 r then some p.2 else mapR σ r
def unmapR (σ : List (Nat × Nat)) (r : Nat) : Option Nat := match σ with
  | [] => none
  | p :: σ => bif Nat.beq p.2 r then some p.1 else unmapR σ r
mutual
def SC.rel (σ : List (Nat × Nat)) : SC → SC
  | .s (some r) x => match mapR σ r with | some r' => .s (some r') x | none => .gone
  | .h r => match mapR σ r with | some r' => .h r' | none => .gone
  | .hn r i k x => match mapR σ r with | some r' => .hn r' i k x | none => .gone
  | .hs r lo hi x => match mapR σ r with | some r' => .hs r' lo hi x | none => .gone
  | .rp (some r) cells => match mapR σ r with | some r' => .rp (some r') (relL σ cells) | none => .gone
  | .rp none cells => .rp none (relL σ cells)
  | .fn f caps => .fn f (relL σ caps)
  | c => c
def relL (σ : List (Nat × Nat)) : List SC → List SC
  | [] => []
  | c :: cs => c.rel σ :: relL σ cs
end
def SV.rel (σ : List (Nat × Nat)) : SV → SV
  | .c x => .c (x.rel σ)
  | .agg xs => .agg (relL σ xs)
  | .ad r e i k => match mapR σ r with | some r' => .ad r' e i k | none => .junk
  | .ra (some r) cells => match mapR σ r with | some r' => .ra (some r') (relL σ cells) | none => .junk
  | .ra none cells => .ra none (relL σ cells)
  | .tup rs => .tup (rs.map fun x => (x.1, relL σ x.2))
  | .und => .und
  | .junk => .junk
def RK.rel (σ : List (Nat × Nat)) : RK → RK
  | .box e cells => .box e (relL σ cells)
  | .list e a v nl (some (some r)) => match mapR σ r with | some r' => .list e a v nl (some (some r')) | none => .dead
  | .listH _ _ _ _ _ _ => .dead
  | k => k
def St.rel (st : St) (σ : List (Nat × Nat)) (n : Nat) : St :=
  { st with slots := st.slots.map (SV.rel σ), roots := (List.range n).map fun r => match unmapR σ r with | some r' => (st.rk r').rel σ | none => .dead, dirty := [] }
/-- Nil slices that the head takes for owned lists. -/
inductive Ado where
  | s (i : Nat) (e : TypeId) (a : Ty)
  | c (r j : Nat) (e : TypeId) (a : Ty)
  | g (i j : Nat) (e : TypeId) (a : Ty)
  | t (i j k : Nat) (e : TypeId) (a : Ty)
def SC.isNil : SC → Bool
  | .nil => true
  | _ => false
def adoptOne (st : St) : Ado → St
  | .s i e a => if st.rok && (st.slot i).isNil then (st.push (.list e a (.nil (.sl e a)) true none)).put i (.c (.h st.nr)) else st
  | .c r j e a => match st.rk r with
    | .box e0 cs => if st.rok && (cs.getD j .gone).isNil then (st.push (.list e a (.nil (.sl e a)) true none)).setR r (.box e0 (cs.set j (.h st.nr))) else st
    | _ => st
  | .g i j e a => match st.slot i with
    | .agg cs => if st.rok && (cs.getD j .gone).isNil then (st.push (.list e a (.nil (.sl e a)) true none)).put i (.agg (cs.set j (.h st.nr))) else st
    | _ => st
  | .t _ _ _ _ _ => st
def adoptTup (st : St) (i j k : Nat) (e : TypeId) (a : Ty) : St := match st.slot i with
  | .tup rs => match rs[j]? with
    | some x => if st.rok && (x.2.getD k .gone).isNil then (st.push (.list e a (.nil (.sl e a)) true none)).put i (.tup (rs.set j (x.1, x.2.set k (.h st.nr)))) else st
    | none => st
  | _ => st
def adoptAll : List Ado → St → St
  | [], st => st
  | .t i j k e a :: l, st => adoptAll l (adoptTup st i j k e a)
  | x :: l, st => adoptAll l (adoptOne st x)
def planCells (H : St) (mk : Nat → TypeId → Ty → Ado) : List SC → List SC → Nat → List Ado
  | .h r :: hs, .nil :: ss, i => match H.rk r with
    | .list e a _ _ none => mk i e a :: planCells H mk hs ss (i + 1)
    | _ => planCells H mk hs ss (i + 1)
  | _ :: hs, _ :: ss, i => planCells H mk hs ss (i + 1)
  | _, _, _ => []
def planTup (H : St) (i : Nat) : List (Bool × List SC) → List (Bool × List SC) → Nat → List Ado
  | x :: xs, y :: ys, j => planCells H (fun k => .t i j k) x.2 y.2 0 ++ planTup H i xs ys (j + 1)
  | _, _, _ => []
def planSlots (H : St) : List SV → List SV → Nat → List Ado
  | .c h :: hs, .c s :: ss, i => planCells H (fun _ => .s i) [h] [s] 0 ++ planSlots H hs ss (i + 1)
  | .agg h :: hs, .agg s :: ss, i => planCells H (.g i) h s 0 ++ planSlots H hs ss (i + 1)
  | .tup h :: hs, .tup s :: ss, i => planTup H i h s 0 ++ planSlots H hs ss (i + 1)
  | _ :: hs, _ :: ss, i => planSlots H hs ss (i + 1)
  | _, _, _ => []
def adoptPlan (H st : St) : List Ado := planSlots H H.slots st.slots 0 ++ (rootMap1 H st).flatMap fun p => match H.rk p.2, st.rk p.1 with
  | .box _ hs, .box _ cs => planCells H (.c p.1) hs cs 0
  | _, _ => []

/-- What the head's parameters (environment place n) are bound to: path and atom. -/
abbrev Binds := List (List Bool × At)
def Ty.leaf : Ty → Bool
  | .int _ => true
  | .bool => true
  | .sl _ _ => true
  | .mp => true
  | _ => false
def At.meet (n : Nat) (ts : List Ty) (ht : Ty) (x y : At) : Option Binds := match x with
  | .r ⟨m, p⟩ => if m = n then (match y.ty ts with
      | some u => if ht.proj p = some u ∧ u.leaf then some [(p, y)] else none
      | none => none) else if m < n ∧ At.r ⟨m, p⟩ = y then some [] else none
  | x => if x = y then some [] else none
def SC.meet (n : Nat) (ts : List Ty) (ht : Ty) : SC → SC → Option Binds
  | .gone, _ => some []
  | .v x, .v y => x.meet n ts ht y
  | .s rg x, .s rg' y => if rg = rg' then x.meet n ts ht y else none
  | x, y => if x.wf n && x.beq y then some [] else none
def meetL (n : Nat) (ts : List Ty) (ht : Ty) : List SC → List SC → Option Binds
  | [], [] => some []
  | x :: xs, y :: ys => match x.meet n ts ht y, meetL n ts ht xs ys with
    | some a, some b => some (a ++ b)
    | _, _ => none
  | _, _ => none
def meetTup (n : Nat) (ts : List Ty) (ht : Ty) : List (Bool × List SC) → List (Bool × List SC) → Option Binds
  | [], [] => some []
  | x :: xs, y :: ys => if x.1 = y.1 then match meetL n ts ht x.2 y.2, meetTup n ts ht xs ys with
    | some a, some b => some (a ++ b)
    | _, _ => none else none
  | _, _ => none
def SV.meet (n : Nat) (ts : List Ty) (ht : Ty) : SV → SV → Option Binds
  | .junk, _ => some []
  | .c x, .c y => x.meet n ts ht y
  | .agg xs, .agg ys => meetL n ts ht xs ys
  | .ad r e i k, .ad r' e' i' k' => if r = r' ∧ e = e' ∧ i = i' ∧ k = k' ∧ i.lt n then some [] else none
  | .ra rg cs, .ra rg' cs' => if rg = rg' ∧ beqL cs cs' ∧ wfL n cs then some [] else none
  | .und, .und => some []
  | .tup rs, .tup rs' => meetTup n ts ht rs rs'
  | _, _ => none
def RK.meet (n : Nat) (ts : List Ty) (ht : Ty) : RK → RK → Option Binds
  | .dead, _ => some []
  | .box e xs, .box e' ys => if e = e' then meetL n ts ht xs ys else none
  | .list e a v nl inner, .list e' a' v' nl' inner' =>
    if e = e' ∧ a = a' ∧ (nl = true → nl' = true) ∧ inner = inner' then v.meet n ts ht v' else none
  | .mp v, .mp v' => v.meet n ts ht v'
  | _, _ => none
def meetSVs (n : Nat) (ts : List Ty) (ht : Ty) : List SV → List SV → Option Binds
  | [], [] => some []
  | x :: xs, y :: ys => match x.meet n ts ht y, meetSVs n ts ht xs ys with
    | some a, some b => some (a ++ b)
    | _, _ => none
  | _, _ => none
def meetRKs (n : Nat) (ts : List Ty) (ht : Ty) : List RK → List RK → Option Binds
  | [], [] => some []
  | x :: xs, y :: ys => match x.meet n ts ht y, meetRKs n ts ht xs ys with
    | some a, some b => some (a ++ b)
    | _, _ => none
  | _, _ => none
def findB (p : List Bool) : Binds → Option At
  | [] => none
  | b :: bs => if b.1 = p then some b.2 else findB p bs
def bindAll (bs : Binds) : List (List Bool) → Option (List At)
  | [] => some []
  | p :: ps => match findB p bs, bindAll bs ps with
    | some x, some xs => some (x :: xs)
    | _, _ => none
def bindOk (ts : List Ty) (t : Ty) (bs : Binds) (x : List Bool × At) : Bool := decide (findB x.1 bs = some x.2) && match x.2.ty ts with
  | some u => decide (t.proj x.1 = some u) && u.leaf
  | none => false
/-- The atoms that make the head's parameter out of the present state. -/
def jump (H st : St) : M (Ty × List At) :=
  match H.ts.getLast? with
  | none => .error "jump a head without parameter"
  | some t =>
    let n := H.ts.length - 1
    if ¬ (H.ts.take n = st.ts.take n ∧ H.fix = st.fix ∧ n ≤ st.ts.length ∧ H.dirty.isEmpty) then .error "jump types" else
    let st1 := adoptAll (adoptPlan H st) st
    let σ := rootMap H st1
    if ¬ (nodup (σ.map (·.1)) ∧ nodup (σ.map (·.2)) ∧ st1.fix.all (fun r => decide (mapR σ r = some r))) then .error "jump roots" else
    let st2 := st1.rel σ H.nr
    match meetSVs n st.ts t H.slots st2.slots, meetRKs n st.ts t H.roots st2.roots with
    | some a, some b =>
      if ¬ ((a ++ b).all fun x => bindOk st.ts t (a ++ b) x) then .error "jump a parameter bound twice" else
      match bindAll (a ++ b) (pathsOf [] t) with
      | some xs => .ok (t, xs)
      | none => .error "jump an unbound parameter"
    | none, _ => .error "jump slots"
    | _, none => .error "jump roots"

/-! ### Code -/
structure Ann where
  N : Nat
  pm : List (Nat × List Nat)
  dirty : List (Nat × List (Nat × Bool))
  heads : List (Nat × Ty × List (Nat × SV) × List RK)
  joins : List (Nat × Ty × List (Nat × SV) × List RK)
  seqs : List (Nat × Ty × List (Nat × SV) × List RK)
  deriving Repr, Inhabited
def findA {α : Type} (l : List (Nat × α)) (i : Nat) : Option α := match l with
  | [] => none
  | x :: l => bif Nat.beq x.1 i then some x.2 else findA l i
def setAll : List (Nat × SV) → List SV → List SV
  | [], l => l
  | x :: xs, l => setAll xs (l.set x.1 x.2)
def headSt (st : St) (h : Ty × List (Nat × SV) × List RK) : St := ⟨st.ts ++ [h.1], setAll h.2.1 (List.replicate st.slots.length .junk), h.2.2, st.fix, []⟩

def firstReg : Code → Option Nat
  | .region id _ _ => some id
  | .seq a b => match firstReg a with | some r => some r | none => firstReg b
  | .cond _ a b => match firstReg a with | some r => some r | none => firstReg b
  | .block _ b => firstReg b
  | .loop b => firstReg b
  | _ => none
/-- What the guard says: shut in or out, or the slot and atom on which it hangs. -/
inductive Gd where
  | yes | no | ask (t : Nat) (x : At)
def guardOf (ops : Array Oper) (st : St) : Option (Nat × Bool) → M Gd
  | none => .ok .yes
  | some (j, want) => match (ops[j]?).bind (·.dst) with
    | some t => match st.slot t with
      | .c (.v (.bool b)) => .ok (if b == want then .yes else .no)
      | .und => .ok .no
      | .c (.v (.r q)) => do if (← st.ty (.r q)) = .bool then .ok (.ask t (.r q)) else .error "guard type"
      | _ => .error "guard"
    | none => .error "guard no slot"
def binds : List (Ex × Ty) → Stm → Stm
  | [], s => s
  | e :: es, s => .bind e.1 (binds es s)
def dstOk (N : Nat) (o : Oper) : Bool := match o.dst with
  | some d => Nat.blt d N
  | none => true
def cStep (P : Program) (ss : List Sig) (N : Nat) (st : St) (o : Oper) (k : St → M Stm) : M Stm := do
  if !(st.wf && st.rok && dstOk N o) then .error "step state" else
  let x ← stepOp P ss st o
  let s ← k x.st
  .ok (binds x.es s)
def hnDirty (st : St) : SV → Bool
  | .c (.hn r _ _ _) => decide (st.dirty = [(r, true)])
  | _ => false
/-- May the operation come ahead of a read that does not wait for it? -/
def nrOk (ss : List Sig) (st : St) (o : Oper) : Bool := match o.op with
  | .store .. => false
  | .mapUpdate .. => false
  | .call c => match c.callee with
    | .builtin .append => match (c.args.toList.head?).map st.val with
      | some (.ok sv) => sv.isNil || hnDirty st sv
      | _ => false
    | .builtin _ => true
    | .value x => match st.val x with
      | .ok (.c (.fn f _)) => match findS st ss f c.args.toList with
        | some s => s.flags.isEmpty
        | none => false
      | _ => false
    | _ => false
  | _ => true
/-- An operation whose guard is known. -/
def cGd (P : Program) (ss : List Sig) (N : Nat) (ops : Array Oper) (o : Oper) (nr : Bool) (st : St) (k : St → M Stm) : M Stm := do
  match ← guardOf ops st o.guard with
  | .yes => if nr && !nrOk ss st o then .error "order a write ahead of a read" else cStep P ss N st o k
  | .no => match o.dst with
    | some d => if Nat.blt d N then k (st.put d .und) else .error "guard slot"
    | none => .error "guard a store"
  | .ask _ _ => .error "guard twice"
def cOp (P : Program) (ss : List Sig) (N : Nat) (ops : Array Oper) (o : Oper) (nr : Bool) (st : St) (k : St → M Stm) : M Stm := do
  match ← guardOf ops st o.guard with
  | .ask t x => do
    let s1 ← cGd P ss N ops o nr (st.put t (.c (.v (.bool true)))) k
    let s2 ← cGd P ss N ops o nr (st.put t (.c (.v (.bool false)))) k
    .ok (.ite x s1 s2)
  | _ => cGd P ss N ops o nr st k
def cOps (P : Program) (ss : List Sig) (N : Nat) (ops : Array Oper) : List (Oper × Bool) → St → (St → M Stm) → M Stm
  | [], st, k => k st
  | x :: rest, st, k => cOp P ss N ops x.1 x.2 st (fun st' => cOps P ss N ops rest st' k)
def cRegion (P : Program) (ss : List Sig) (an : Ann) (id : Nat) (ops : Array Oper) (draw : Bool) (st : St) (k : St → M Stm) : M Stm :=
  if draw then match findA an.pm id with
    | some l => if orderOK ops l then match findA an.dirty id with
        | some [(r, true)] => if st.dirty.isEmpty then cOps P ss an.N ops (sched true ops l) { st with dirty := [(r, true)] } (fun st' => k { st' with dirty := [] }) else .error "dirty"
        | some _ => .error "dirty"
        | none => cOps P ss an.N ops (sched true ops l) st k
      else .error "order"
    | none => .error "no order"
  else cOps P ss an.N ops (sched false ops (List.range ops.size)) st k
/-- Within a join: an end of the part leads to the join's head, all else lies beyond. -/
def toJoin (J : St) (k : Exit → St → M Stm) : Exit → St → M Stm
  | .normal, st => do
    let x ← jump J st
    .ok (.next x.1 x.2)
  | e, st => do
    let s ← k e st
    .ok (.lift s)
def endLoop (id : Nat) (H : St) (k : Exit → St → M Stm) : Exit → St → M Stm
  | .normal, st => do
    let x ← jump H st
    .ok (.next x.1 x.2)
  | .exit id', st => do
    let s ← k (if id' = id then .normal else .exit id') st
    .ok (.lift s)
  | e, st => do
    let s ← k e st
    .ok (.lift s)
def endBlock (id : Nat) (k : Exit → St → M Stm) : Exit → St → M Stm
  | .exit id', st => k (if id' = id then .normal else .exit id') st
  | e, st => k e st
def thenK (f : St → M Stm) (k : Exit → St → M Stm) : Exit → St → M Stm
  | .normal, st => f st
  | e, st => k e st
def joinAt (an : Ann) (b : Code) : Option (Ty × List (Nat × SV) × List RK) := match firstReg b with | some r => findA an.seqs r | none => none
def cLoop (an : Ann) (id : Nat) (rec : St → (Exit → St → M Stm) → M Stm) (st : St) (k : Exit → St → M Stm) : M Stm := match findA an.heads id with
  | some h => do
    let x ← jump (headSt st h) st
    let s ← rec (headSt st h) (endLoop id (headSt st h) k)
    .ok (.loop h.1 x.2 s)
  | none => .error "no head of loop"
def cJoin (j : Option (Ty × List (Nat × SV) × List RK)) (st : St) (f : (Exit → St → M Stm) → M Stm) (g : St → M Stm) (k : Exit → St → M Stm) : M Stm := match j with
  | some j => do
    let s ← f (toJoin (headSt st j) k)
    let s' ← g (headSt st j)
    .ok (.join j.1 s s')
  | none => f (thenK g k)
def cCode (P : Program) (ss : List Sig) (an : Ann) : Code → St → (Exit → St → M Stm) → M Stm
  | .skip, st, k => k .normal st
  | .exit id, st, k => k (.exit id) st
  | .ret, st, k => k .ret st
  | .region id ops draw, st, k => cRegion P ss an id ops draw st (k .normal)
  | .seq a b, st, k => cJoin (joinAt an b) st (fun k => cCode P ss an a st k) (fun st => cCode P ss an b st k) k
  | .cond c a b, st, k => do
    match ← st.boolOf c with
    | .bool true => cCode P ss an a st k
    | .bool false => cCode P ss an b st k
    | x => do
      let s1 ← cCode P ss an a st k
      let s2 ← cCode P ss an b st k
      .ok (.ite x s1 s2)
  | .block id (.loop b), st, k => cJoin (findA an.joins id) st (fun k => cLoop an id (fun st k => cCode P ss an b st k) st k) (k .normal) k
  | .block id c, st, k => cJoin (findA an.joins id) st (fun k => cCode P ss an c st (endBlock id k)) (k .normal) k
  | _, _, _ => .error "code"

/-! ### Functions -/
def fixed : Nat → List Par → List Nat
  | _, [] => []
  | r, p :: ps => (match p with | .own _ t true => List.range' r t.sls | _ => []) ++ fixed (r + p.nroots) ps
def initSt (N : Nat) (s : Sig) : St := { preSt s with slots := (preSt s).slots ++ List.replicate (N - (preSt s).slots.length) .und, fix := fixed 0 s.ps }
/-- The results. -/
def resOne (P : Program) (st : St) : ResultVar → M (Bool × List SC)
  | .tmp t => match st.slot t with
    | .c x => .ok (false, [x])
    | .agg xs => .ok (true, xs)
    | _ => .error "result slot"
  | .cell t ty => match st.slot t with
    | .c (.h r) => match st.rk r with
      | .box _ cells => do
        let v ← loadCells' P ty cells
        match v with
        | .c x => .ok (false, [x])
        | .agg xs => .ok (true, xs)
        | _ => .error "result load"
      | _ => .error "result cell"
    | _ => .error "result cell"
def resAll (P : Program) (st : St) : List ResultVar → M (List (Bool × List SC))
  | [] => .ok []
  | v :: vs => do
    let x ← resOne P st v
    let xs ← resAll P st vs
    .ok (x :: xs)
/-- One result, or a tuple. -/
def resPut : List (Bool × List SC) → SV
  | [(false, [c])] => .c c
  | [(true, cs)] => .agg cs
  | cs => .tup cs
def postHead (s : Sig) : St := { postSt s with fix := fixed 0 s.ps }
/-- A result that lies within a list is taken out. -/
def outRes (st : St) : M (List (Ex × Ty) × St) := match st.slot 0 with
  | .c (.hn r i k _) => do
    let z ← st.takeOut r i k
    .ok (z.1, z.2.put 0 (.c (.h st.nr)))
  | .tup ((false, [.hn r i k _]) :: _) => do
    let z ← st.takeOut r i k
    match z.2.slot 0 with
    | .tup (_ :: rs) => .ok (z.1, z.2.put 0 (.tup ((false, [.h st.nr]) :: rs)))
    | _ => .error "result inner"
  | _ => .ok ([], st)
def cFin (P : Program) (fn : Func) (s : Sig) (st : St) : M Stm := do
  let cs ← resAll P st fn.results.toList
  if cs.isEmpty then .error "no results" else
  let o ← outRes { st with slots := [resPut cs] }
  let x ← jump (postHead s) o.2
  .ok (binds o.1 (.ret x.1 x.2))
def cFunc (P : Program) (ss : List Sig) (an : Ann) (s : Sig) : M Stm :=
  match P.funcs[s.f]? with
  | none => .error "function"
  | some fn => match fn.body with
    | none => .error "body"
    | some c =>
      if ¬ (an.N = fn.ntmps ∧ s.ps.length ≤ fn.ntmps) then .error "parameters" else
      cCode P ss an c (initSt fn.ntmps s) fun e st => match e with
        | .normal | .ret => cFin P fn s st
        | _ => .error "exit"
end Go.Pu
/-
  Own work. What a closed state says of memory, over an environment; the typed invariant; the law of steps that only compute.
-/
namespace Go.Pu
open Go Go.RowKit
set_option linter.unusedVariables false

/-! ### Encodings -/
def enc (rg : Rg) : (t : Ty) → t.den → List C
  | .int k, z => [.int k z]
  | .bool, b => [.bool b]
  | .unit, _ => []
  | .pr a b, x => enc rg a x.1 ++ enc rg b x.2
  | .sl _ a, xs => [.ro rg (List.map (enc rg a) xs)]
  | .mp, _ => [.gone]
/-- An element (number i) of a list that root r owns; its slices are rows of their own. -/
def encE (r i : Nat) : Nat → (t : Ty) → t.den → List C
  | _, .int k, z => [.int k z]
  | _, .bool, b => [.bool b]
  | _, .unit, _ => []
  | k, .pr a b, x => encE r i k a x.1 ++ encE r i (k + a.n) b x.2
  | k, .sl _ _, _ => [.hd (r, [(i, k)])]
  | _, .mp, _ => [.gone]
/-- The row behind cell j. -/
def subRow : Nat → (t : Ty) → t.den → Nat → Option Row
  | k, .pr a b, x, j => bif Nat.blt j (k + a.n) then subRow k a x.1 j else subRow (k + a.n) b x.2 j
  | k, .sl e a, xs, j => bif Nat.beq j k then some (.row false false e (List.map (enc none a) xs)) else none
  | _, _, _, _ => none
theorem enc_length (rg : Rg) : ∀ (t : Ty) (x : t.den), (enc rg t x).length = t.n
  | .int _, _ => rfl
  | .bool, _ => rfl
  | .unit, _ => rfl
  | .pr a b, x => by simp only [enc, List.length_append, enc_length rg a x.1, enc_length rg b x.2, Ty.n]
  | .sl _ _, _ => rfl
  | .mp, _ => rfl
theorem encE_length (r i : Nat) : ∀ (k : Nat) (t : Ty) (x : t.den), (encE r i k t x).length = t.n
  | _, .int _, _ => rfl
  | _, .bool, _ => rfl
  | _, .unit, _ => rfl
  | k, .pr a b, x => by simp only [encE, List.length_append, encE_length r i k a x.1, encE_length r i (k + a.n) b x.2, Ty.n]
  | _, .sl _ _, _ => rfl
  | _, .mp, _ => rfl
theorem encE_flat (r i : Nat) (rg : Rg) : ∀ (k : Nat) (t : Ty) (x : t.den), t.flat = true → encE r i k t x = enc rg t x
  | _, .int _, _, _ => rfl
  | _, .bool, _, _ => rfl
  | _, .unit, _, _ => rfl
  | k, .pr a b, x, h => by
    simp only [Ty.flat, Bool.and_eq_true] at h
    simp only [encE, enc, encE_flat r i rg k a x.1 h.1, encE_flat r i rg (k + a.n) b x.2 h.2]
theorem enc_flat (rg rg' : Rg) : ∀ (t : Ty) (x : t.den), t.flat = true → enc rg t x = enc rg' t x
  | .int _, _, _ => rfl
  | .bool, _, _ => rfl
  | .unit, _, _ => rfl
  | .pr a b, x, h => by
    simp only [Ty.flat, Bool.and_eq_true] at h
    simp only [enc, enc_flat rg rg' a x.1 h.1, enc_flat rg rg' b x.2 h.2]

def V.c : V → C
  | ⟨.int k, z⟩ => .int k z
  | ⟨.bool, b⟩ => .bool b
  | _ => .gone
def V.els (rg : Rg) : V → List (List C)
  | ⟨.sl _ a, xs⟩ => List.map (enc rg a) xs
  | _ => []
def V.esz : V → Nat
  | ⟨.sl _ a, _⟩ => a.n
  | _ => 0
def At.nat (ρ : Env) (x : At) : Nat := (x.get ρ).int.toNat
def loOf (ρ : Env) : Option At → Nat
  | some x => x.nat ρ
  | none => 0
mutual
def SC.enc (ρ : Env) : SC → C
  | .v x => (x.get ρ).c
  | .s rg x => .ro rg ((x.get ρ).els rg)
  | .nil => .nil
  | .h r => .hd (r, [])
  | .hn r i k x => .both (.hd (r, [(i.nat ρ, k)])) (.ro (some r) ((x.get ρ).els (some r)))
  | .hs r lo _ x => .both (.sub (r, []) (x.get ρ).esz (loOf ρ lo) (x.get ρ).len) (.ro (some r) ((x.get ρ).els (some r)))
  | .rp rg cells => .rp rg (encL ρ cells)
  | .fn f caps => .fn f (encL ρ caps)
  | .gone => .gone
def encL (ρ : Env) : List SC → List C
  | [] => []
  | c :: cs => c.enc ρ :: encL ρ cs
end
theorem encL_map (ρ : Env) : ∀ (cs : List SC), encL ρ cs = cs.map (SC.enc ρ)
  | [] => by simp [encL]
  | c :: cs => by simp [encL, encL_map ρ cs]
def encR (ρ : Env) (x : Bool × List SC) : R := if x.1 then .agg (encL ρ x.2) else match encL ρ x.2 with | c :: _ => .one c | [] => .one .gone
def SV.enc (ρ : Env) : SV → PV
  | .c x => .c (x.enc ρ)
  | .agg xs => .agg (encL ρ xs)
  | .ad r e i k => .ad (r, []) e (i.nat ρ) k
  | .ra rg cells => .ra rg (encL ρ cells)
  | .tup rs => .tup (rs.map (encR ρ))
  | .und => .und
  | .junk => .junk
def encIn (inner : Option Rg) (r i : Nat) (a : Ty) (y : a.den) : List C := match inner with
  | some rg => enc rg a y
  | none => encE r i 0 a y
def RK.rows (ρ : Env) (r : Nat) : RK → List (Nat × Nat) → Option Row
  | .box e cells, [] => some (.row true false e [encL ρ cells])
  | .list e a v nl inner, [] => some (.row false nl e (((v.get ρ).as (.sl e a)).mapIdx fun i y => encIn inner r i a y))
  | .list e a v _ none, [(i, k)] => (((v.get ρ).as (.sl e a))[i]?).bind fun y => subRow 0 a y k
  | .listH e a v nl _ _, [] => some (.row false nl e (((v.get ρ).as (.sl e a)).mapIdx fun i y => encE r i 0 a y))
  | .listH e a v _ i' k', [(i, k)] => bif Nat.beq i (i'.nat ρ) && Nat.beq k k' then none else (((v.get ρ).as (.sl e a))[i]?).bind fun y => subRow 0 a y k
  | .mp v, [] => some (.mp ((v.get ρ).as .mp))
  | _, _ => none

theorem At.get_app {ρ ρ' : Env} {x : At} (h : x.lt ρ.length = true) : x.get (ρ ++ ρ') = x.get ρ := by
  cases x with
  | r q =>
    simp only [At.lt, Nat.blt_eq] at h
    simp only [At.get, Ref.get, List.getD, List.getElem?_append_left h]
  | _ => rfl
theorem nat_app {ρ ρ' : Env} {x : At} (h : x.lt ρ.length = true) : x.nat (ρ ++ ρ') = x.nat ρ := by unfold At.nat; rw [At.get_app h]
theorem lo_app {ρ ρ' : Env} {x : Option At} (h : oLt ρ.length x = true) : loOf (ρ ++ ρ') x = loOf ρ x := by
  cases x with
  | none => rfl
  | some x => exact nat_app h
mutual
theorem SC.enc_app {ρ ρ' : Env} : ∀ (c : SC), c.wf ρ.length = true → c.enc (ρ ++ ρ') = c.enc ρ
  | .v x, h => by simp only [SC.wf] at h; simp only [SC.enc, At.get_app h]
  | .s rg x, h => by simp only [SC.wf] at h; simp only [SC.enc, At.get_app h]
  | .nil, _ => by simp only [SC.enc]
  | .h r, _ => by simp only [SC.enc]
  | .hn r i k x, h => by simp only [SC.wf, Bool.and_eq_true] at h; simp only [SC.enc, At.get_app h.2, nat_app h.1]
  | .hs r lo hi x, h => by simp only [SC.wf, Bool.and_eq_true] at h; simp only [SC.enc, At.get_app h.2, lo_app h.1]
  | .rp rg cells, h => by simp only [SC.wf] at h; simp only [SC.enc, encL_app cells h]
  | .fn f caps, h => by simp only [SC.wf] at h; simp only [SC.enc, encL_app caps h]
  | .gone, _ => by simp only [SC.enc]
theorem encL_app {ρ ρ' : Env} : ∀ (cs : List SC), wfL ρ.length cs = true → encL (ρ ++ ρ') cs = encL ρ cs
  | [], _ => by simp only [encL]
  | c :: cs, h => by simp only [wfL, Bool.and_eq_true] at h; simp only [encL, SC.enc_app c h.1, encL_app cs h.2]
end
theorem encR_app {ρ ρ' : Env} (x : Bool × List SC) (h : wfL ρ.length x.2 = true) : encR (ρ ++ ρ') x = encR ρ x := by
  unfold encR; rw [encL_app _ h]
theorem SV.enc_app {ρ ρ' : Env} (v : SV) (h : v.wf ρ.length = true) : v.enc (ρ ++ ρ') = v.enc ρ := by
  cases v with
  | c x => simp only [SV.enc, SC.enc_app x h]
  | agg xs => simp only [SV.enc, encL_app xs h]
  | ad r e i k => simp only [SV.enc, nat_app h]
  | ra rg cells => simp only [SV.enc, encL_app cells h]
  | tup rs =>
    simp only [SV.wf, List.all_eq_true] at h
    simp only [SV.enc]
    congr 1
    exact List.map_congr_left fun x hx => encR_app x (h x hx)
  | und => rfl
  | junk => rfl
theorem RK.rows_app {ρ ρ' : Env} (r : Nat) (k : RK) (h : k.wf ρ.length = true) (p : List (Nat × Nat)) : k.rows (ρ ++ ρ') r p = k.rows ρ r p := by
  cases k with
  | box e cells => unfold RK.rows; split <;> simp_all [RK.wf, encL_app]
  | list e a v nl inner => unfold RK.rows; split <;> simp_all [RK.wf, At.get_app]
  | listH e a v nl i k => simp only [RK.wf, Bool.and_eq_true] at h; unfold RK.rows; split <;> simp_all [At.get_app, nat_app]
  | mp v => unfold RK.rows; split <;> simp_all [RK.wf, At.get_app]
  | dead => rfl

/-! ### Types -/
theorem proj_ty : ∀ (p : List Bool) (v : V) (t : Ty), v.t.proj p = some t → (v.proj p).t = t
  | [], ⟨_, _⟩, t, h => by simp only [Ty.proj, Option.some.injEq] at h; simp only [V.proj]; exact h
  | false :: p, ⟨.pr a b, x⟩, t, h => by simp only [Ty.proj] at h; simp only [V.proj]; exact proj_ty p ⟨a, x.1⟩ t h
  | true :: p, ⟨.pr a b, x⟩, t, h => by simp only [Ty.proj] at h; simp only [V.proj]; exact proj_ty p ⟨b, x.2⟩ t h
  | _ :: _, ⟨.int _, _⟩, t, h => by simp [Ty.proj] at h
  | _ :: _, ⟨.bool, _⟩, t, h => by simp [Ty.proj] at h
  | _ :: _, ⟨.unit, _⟩, t, h => by simp [Ty.proj] at h
  | _ :: _, ⟨.sl _ _, _⟩, t, h => by simp [Ty.proj] at h
  | _ :: _, ⟨.mp, _⟩, t, h => by simp [Ty.proj] at h
theorem At.ty_get {ρ : Env} {ts : List Ty} (hρ : ρ.map V.t = ts) {x : At} {t : Ty} (h : x.ty ts = some t) : (x.get ρ).t = t := by
  cases x with
  | r q =>
    subst hρ
    simp only [At.ty, List.getElem?_map] at h
    simp only [At.get, Ref.get, List.getD]
    cases hq : ρ[q.n]? with
    | none => simp [hq] at h
    | some v =>
      simp only [hq, Option.map_some] at h
      simp only [Option.getD_some]
      exact proj_ty q.p v t h
  | int k z => simp only [At.ty, Option.some.injEq] at h; exact h
  | bool b => simp only [At.ty, Option.some.injEq] at h; exact h
  | nil t' => simp only [At.ty, Option.some.injEq] at h; exact h
theorem At.ty_lt {ts : List Ty} {x : At} {t : Ty} (h : x.ty ts = some t) : x.lt ts.length = true := by
  cases x with
  | r q =>
    simp only [At.ty] at h
    cases hq : ts[q.n]? with
    | none => simp [hq] at h
    | some v => simp only [At.lt, Nat.blt_eq]; exact (List.getElem?_eq_some_iff.1 hq).1
  | _ => rfl
theorem V.int_of {v : V} {k : IntKind} (h : v.t = .int k) : v = ⟨.int k, v.int⟩ := by
  obtain ⟨t, x⟩ := v
  simp only at h
  subst h; rfl
theorem V.bool_of {v : V} (h : v.t = .bool) : v = ⟨.bool, v.bool⟩ := by
  obtain ⟨t, x⟩ := v
  simp only at h
  subst h; rfl
theorem V.list_of {v : V} {e : TypeId} {a : Ty} (h : v.t = .sl e a) : v = ⟨.sl e a, v.as (.sl e a)⟩ := by
  obtain ⟨t, x⟩ := v
  simp only at h
  subst h
  simp [V.as]
theorem V.as_self (t : Ty) (x : t.den) : V.as t ⟨t, x⟩ = x := by simp [V.as]

/-! ### The typed invariant -/
structure TInv (X : Ctx) (D : Nat → Prop) (st : St) (ρ : Env) (a : Act) (w : World) (g : G) : Prop where
  typ : ρ.map V.t = st.ts
  inv : InvG X (fun s => (st.slot s).enc ρ) (fun l => (st.rk l.1).rows ρ l.1 l.2) a w g
  fixd : ∀ r, r ∈ st.fix → g.hdr (r, []) = X.h0 r
  dirt : (∀ b, D b → ∃ p q, p ∈ st.dirty ∧ g.own b = some (p.1, q) ∧ (p.2 = true ↔ q ≠ [])) ∧ ∀ r b q, st.dirty = [(r, true)] → g.own b = some (r, q) → q ≠ [] → D b
theorem TInv.len {X : Ctx} {D : Nat → Prop} {st : St} {ρ : Env} {a : Act} {w : World} {g : G} (h : TInv X D st ρ a w g) : ρ.length = st.ts.length := by rw [← h.typ, List.length_map]
theorem St.wf_slot {st : St} (h : st.wf = true) (s : Nat) : (st.slot s).wf st.ts.length = true := by
  unfold St.wf at h
  simp only [Bool.and_eq_true, List.all_eq_true] at h
  unfold St.slot
  rw [List.getD]
  cases hs : st.slots[s]? with
  | none => rfl
  | some v => exact h.1 v (List.mem_of_getElem? hs)
theorem St.wf_rk {st : St} (h : st.wf = true) (r : Nat) : (st.rk r).wf st.ts.length = true := by
  unfold St.wf at h
  simp only [Bool.and_eq_true, List.all_eq_true] at h
  unfold St.rk
  rw [List.getD]
  cases hs : st.roots[r]? with
  | none => rfl
  | some v => exact h.2 v (List.mem_of_getElem? hs)

/-- The environment grows. -/
theorem TInv.grow {X : Ctx} {D : Nat → Prop} {st : St} {ρ : Env} {a : Act} {w : World} {g : G} (h : TInv X D st ρ a w g) (hw : st.wf = true) (vs : Env) :
    TInv X D { st with ts := st.ts ++ vs.map V.t } (ρ ++ vs) a w g := by
  refine ⟨by rw [List.map_append, h.typ], ?_, h.fixd, h.dirt⟩
  have e1 : (fun s => (St.slot { st with ts := st.ts ++ vs.map V.t } s).enc (ρ ++ vs)) = fun s => (st.slot s).enc ρ := by
    funext s
    exact SV.enc_app _ (by rw [h.len]; exact St.wf_slot hw s)
  have e2 : (fun l : Loc => (St.rk { st with ts := st.ts ++ vs.map V.t } l.1).rows (ρ ++ vs) l.1 l.2) = fun l => (st.rk l.1).rows ρ l.1 l.2 := by
    funext l
    exact RK.rows_app _ _ (by rw [h.len]; exact St.wf_rk hw l.1) _
  rw [e1, e2]
  exact h.inv
theorem getD_set_eq (t : Array Value) (d : Nat) (v : Value) (h : d < t.size) : (t.setIfInBounds d v).getD d undef = v := by
  rw [Array.getD_eq_getD_getElem?, Array.getElem?_setIfInBounds_self_of_lt h]; rfl
theorem getD_set_ne' (t : Array Value) (d s : Nat) (v : Value) (h : d ≠ s) : (t.setIfInBounds d v).getD s undef = t.getD s undef := by
  rw [Array.getD_eq_getD_getElem?, Array.getElem?_setIfInBounds_ne h, ← Array.getD_eq_getD_getElem?]
theorem St.slot_put_ne {st : St} {d s : Nat} {v : SV} (h : s ≠ d) : (st.put d v).slot s = st.slot s := by
  unfold St.put St.slot
  simp only [List.getD, List.getElem?_set_ne (Ne.symm h)]
theorem St.slot_put_eq {st : St} {d : Nat} {v : SV} (h : d < st.slots.length) : (st.put d v).slot d = v := by
  unfold St.put St.slot
  simp only [List.getD, List.getElem?_set_self h, Option.getD_some]
theorem St.slot_put (st : St) (d s : Nat) (v : SV) : (st.put d v).slot s = v ∧ s = d ∨ (st.put d v).slot s = st.slot s ∧ s ≠ d ∨ (st.put d v).slot s = .junk := by
  by_cases h : s = d
  · subst h
    by_cases hl : s < st.slots.length
    · exact .inl ⟨St.slot_put_eq hl, rfl⟩
    · right; right
      unfold St.put St.slot
      simp only [List.getD]
      rw [List.getElem?_eq_none (by simpa using hl)]; rfl
  · exact .inr (.inl ⟨St.slot_put_ne h, h⟩)
/-- A value put into a slot; the world stays. -/
theorem TInv.put {X : Ctx} {D : Nat → Prop} {st : St} {ρ : Env} {a : Act} {w : World} {g : G} (h : TInv X D st ρ a w g) {d : Nat} (hd : d < X.N) {sv : SV} {v : Value} (hp : PRep X.P w g (sv.enc ρ) v) :
    TInv X D (st.put d sv) ρ (a.put (some d) v) w g := by
  have hlt : d < a.tmps.size := by rw [h.inv.size]; exact hd
  refine ⟨h.typ, ⟨by simpa [Act.put] using h.inv.size, h.inv.nodef, h.inv.ok, fun s => ?_, h.inv.row⟩, h.fixd, h.dirt⟩
  show PRep X.P w g (((st.put d sv).slot s).enc ρ) ((a.put (some d) v).tmps.getD s undef)
  rcases St.slot_put st d s sv with ⟨e, rfl⟩ | ⟨e, hs⟩ | e
  · rw [e]
    simp only [Act.put]
    rw [getD_set_eq _ _ _ hlt]; exact hp
  · rw [e]
    simp only [Act.put]
    rw [getD_set_ne' _ _ _ _ (Ne.symm hs)]
    exact h.inv.slot s
  · rw [e]; trivial
end Go.Pu
/-
  Own work. The operations that only compute: each does on the machine what its translation says.
-/
namespace Go.Pu
open Go Go.RowKit
set_option linter.unusedVariables false

theorem ok_bind {α β : Type} {x : M α} {f : α → M β} {y : β} (h : (x >>= f) = .ok y) : ∃ z, x = .ok z ∧ f z = .ok y := by
  cases x with
  | error e => cases h
  | ok z => exact ⟨z, rfl, h⟩
def Ex.den1 (Γ : List FE) (ρ : Env) (e : Ex) : Option V := e.den Γ ρ some
theorem Ex.den_eq (Γ : List FE) {ω : Type} (ρ : Env) (K : V → Option ω) (e : Ex) : e.den Γ ρ K = (e.den1 Γ ρ).bind K := by
  unfold Ex.den1
  cases e <;> simp only [Ex.den] <;> first
    | rfl
    | (rw [Option.bind_assoc]; rfl)
    | (split <;> first | rfl | (rw [Option.bind_assoc]; rfl))
def evalB (Γ : List FE) : List Ex → Env → Option Env
  | [], ρ => some ρ
  | e :: es, ρ => (e.den1 Γ ρ).bind fun v => evalB Γ es (ρ ++ [v])
theorem evalB_one {Γ : List FE} {e : Ex} {ρ ρ' : Env} (h : evalB Γ [e] ρ = some ρ') : ∃ v, e.den1 Γ ρ = some v ∧ ρ' = ρ ++ [v] := by
  simp only [evalB, Option.bind_eq_some_iff, Option.some.injEq] at h
  obtain ⟨v, h1, h2⟩ := h
  exact ⟨v, h1, h2.symm⟩
theorem evalB_cons {Γ : List FE} {e : Ex} {es : List Ex} {ρ ρ' : Env} (h : evalB Γ (e :: es) ρ = some ρ') : ∃ v, e.den1 Γ ρ = some v ∧ evalB Γ es (ρ ++ [v]) = some ρ' := by
  simpa only [evalB, Option.bind_eq_some_iff] using h
theorem evalB_nil {Γ : List FE} {ρ ρ' : Env} (h : evalB Γ [] ρ = some ρ') : ρ' = ρ := by
  simpa only [evalB, Option.some.injEq, eq_comm] using h

section
variable {X : Ctx} {D : Nat → Prop} {Γ : List FE} {st : St} {ρ : Env} {a : Act} {w : World} {g : G}
/-- A step that only computes. -/
def QStep (X : Ctx) (D : Nat → Prop) (Γ : List FE) (st : St) (o : Oper) (s : Step) : Prop :=
  ∀ ρ ρ' a w g, TInv X D st ρ a w g → st.wf = true → evalB Γ (s.es.map (·.1)) ρ = some ρ' →
    ∃ v, (∀ w', Cls D o w w' → (execOp a.eval o).run X.P w' = .ok (.value v) w') ∧ ∃ g', TInv X D s.st ρ' (a.put o.dst v) w g'

theorem val_rep (h : TInv X D st ρ a w g) {o : Operand} {sv : SV} (hv : st.val o = .ok sv) : PRep X.P w g (sv.enc ρ) (a.eval o) := by
  cases o with
  | tmp t =>
    simp only [St.val, Except.ok.injEq] at hv
    subst hv
    exact h.inv.slot t
  | const c =>
    simp only [St.val] at hv
    unfold constV at hv
    simp only [Act.eval]
    split at hv <;> simp only [Except.ok.injEq, reduceCtorEq] at hv <;> subst hv
    · simp only [SV.enc, SC.enc, At.get, V.c]; exact .int _ _
    · simp only [SV.enc, SC.enc, At.get, V.c]; exact .bool _
    · simp only [SV.enc, SC.enc]; exact .nil
    · simp only [SV.enc, SC.enc]; exact .gone _
    · simp only [SV.enc, SC.enc]; exact .gone _
    · simp only [SV.enc, SC.enc]; exact .gone _
  | func f =>
    simp only [St.val, Except.ok.injEq] at hv
    subst hv
    simp only [SV.enc, SC.enc, encL]
    exact .fn f [] #[] rfl (fun k x hx => by simp at hx)
  | global n => simp [St.val] at hv
theorem ty_ok {x : At} {t : Ty} (h : st.ty x = .ok t) : x.ty st.ts = some t := by
  unfold St.ty at h
  split at h
  · rename_i t' ht; simp only [Except.ok.injEq] at h; rw [ht, h]
  · cases h
theorem ty_get (h : TInv X D st ρ a w g) {x : At} {t : Ty} (ht : st.ty x = .ok t) : (x.get ρ).t = t := At.ty_get h.typ (ty_ok ht)
theorem int_get (h : TInv X D st ρ a w g) {x : At} {k : IntKind} (ht : st.ty x = .ok (.int k)) : x.get ρ = ⟨.int k, (x.get ρ).int⟩ := V.int_of (ty_get h ht)
theorem bool_get (h : TInv X D st ρ a w g) {x : At} (ht : st.ty x = .ok .bool) : x.get ρ = ⟨.bool, (x.get ρ).bool⟩ := V.bool_of (ty_get h ht)
theorem crep_int {k : IntKind} {z : Int} {v : Value} (h : CRep w g (.int k z) v) : v = .int k z := by cases h; rfl
theorem crep_bool {b : Bool} {v : Value} (h : CRep w g (.bool b) v) : v = .bool b := by cases h; rfl
theorem val_int (h : TInv X D st ρ a w g) {o : Operand} {x : At} {k : IntKind} (hv : st.val o = .ok (.c (.v x))) (ht : st.ty x = .ok (.int k)) : a.eval o = .int k (x.get ρ).int := by
  have := val_rep h hv
  simp only [SV.enc, SC.enc] at this
  rw [int_get h ht] at this
  exact crep_int this
theorem val_bool (h : TInv X D st ρ a w g) {o : Operand} {x : At} (hv : st.val o = .ok (.c (.v x))) (ht : st.ty x = .ok .bool) : a.eval o = .bool (x.get ρ).bool := by
  have := val_rep h hv
  simp only [SV.enc, SC.enc] at this
  rw [bool_get h ht] at this
  exact crep_bool this
theorem atom_ok {o : Operand} {x : At} (h : st.atom o = .ok x) : st.val o = .ok (.c (.v x)) := by
  unfold St.atom at h
  obtain ⟨v, hv, h⟩ := ok_bind h
  split at h
  · simp only [Except.ok.injEq] at h; subst h; exact hv
  · cases h
theorem intOf_ok {o : Operand} {k : IntKind} {x : At} (h : st.intOf o = .ok (k, x)) : st.val o = .ok (.c (.v x)) ∧ st.ty x = .ok (.int k) := by
  unfold St.intOf at h
  obtain ⟨y, hy, h⟩ := ok_bind h
  obtain ⟨t, ht, h⟩ := ok_bind h
  split at h
  · simp only [Except.ok.injEq, Prod.mk.injEq] at h
    obtain ⟨rfl, rfl⟩ := h
    exact ⟨atom_ok hy, ht⟩
  · cases h
theorem boolOf_ok {o : Operand} {x : At} (h : st.boolOf o = .ok x) : st.val o = .ok (.c (.v x)) ∧ st.ty x = .ok .bool := by
  unfold St.boolOf at h
  obtain ⟨y, hy, h⟩ := ok_bind h
  obtain ⟨t, ht, h⟩ := ok_bind h
  split at h
  · simp only [Except.ok.injEq] at h
    subst h
    exact ⟨atom_ok hy, ht⟩
  · cases h

/-- A step that puts a value, without bindings. -/
theorem q_put {o : Oper} {d : Nat} {sv : SV} (hd : o.dst = some d) (hN : d < X.N)
    (h : ∀ ρ a w g, TInv X D st ρ a w g → ∃ v, (∀ w', Cls D o w w' → (execOp a.eval o).run X.P w' = .ok (.value v) w') ∧ PRep X.P w g (sv.enc ρ) v) :
    QStep X D Γ st o ⟨[], st.put d sv⟩ := fun ρ ρ' a w g hi _ he => by
  have := evalB_nil he
  subst this
  obtain ⟨v, h1, h2⟩ := h ρ' a w g hi
  refine ⟨v, h1, g, ?_⟩
  rw [hd]
  exact hi.put hN h2
theorem ref_get {ρ : Env} {v : V} (hl : ρ.length = st.ts.length) : (st.ref).get (ρ ++ [v]) = v := by
  unfold St.ref
  simp only [At.get, Ref.get, V.proj]
  rw [← hl]
  simp [List.getD]
/-- A step that binds one expression and puts what comes of it. -/
theorem q_bind {o : Oper} {d : Nat} {e : Ex} {t : Ty} {sv : SV} (hd : o.dst = some d) (hN : d < X.N)
    (h : ∀ ρ a w g v', TInv X D st ρ a w g → e.den1 Γ ρ = some v' → v'.t = t ∧ ∃ v, (∀ w', Cls D o w w' → (execOp a.eval o).run X.P w' = .ok (.value v) w') ∧ (TInv X D (st.bind t) (ρ ++ [v']) a w g → st.ref.get (ρ ++ [v']) = v' → PRep X.P w g (sv.enc (ρ ++ [v'])) v)) :
    QStep X D Γ st o ⟨[(e, t)], (st.bind t).put d sv⟩ := fun ρ ρ' a w g hi hw he => by
  obtain ⟨v', hv', rfl⟩ := evalB_one he
  obtain ⟨ht, v, h1, h2⟩ := h ρ a w g v' hi hv'
  refine ⟨v, h1, g, ?_⟩
  rw [hd]
  have hg := hi.grow hw [v']
  simp only [List.map_cons, List.map_nil, ht] at hg
  exact TInv.put hg hN (h2 hg (ref_get hi.len))
theorem q_step1 {o : Oper} {d : Nat} {e : Ex} {t : Ty} (hd : o.dst = some d) (hN : d < X.N)
    (h : ∀ ρ a w g v', TInv X D st ρ a w g → e.den1 Γ ρ = some v' → v'.t = t ∧ ∃ v, (∀ w', Cls D o w w' → (execOp a.eval o).run X.P w' = .ok (.value v) w') ∧ CRep w g v'.c v) :
    QStep X D Γ st o (step1 st d e t (.c ∘ .v)) :=
  q_bind hd hN fun ρ a w g v' hi hv' => by
    obtain ⟨ht, v, h1, h2⟩ := h ρ a w g v' hi hv'
    refine ⟨ht, v, h1, fun _ hr => ?_⟩
    simp only [Function.comp, SV.enc, SC.enc, hr]
    exact h2

variable {d : Nat} {x y : Operand} {t t' ty : TypeId} {ps : String} {af : Array Edge} {gd : Option (Nat × Bool)} {s : Step}
theorem move_ok (hN : d < X.N) (h : stepMove st d x = .ok s) : QStep X D Γ st ⟨some d, .move x, ty, ps, af, gd⟩ s := by
  unfold stepMove at h
  obtain ⟨v, hv, h⟩ := ok_bind h
  simp only [Except.ok.injEq] at h
  subst h
  exact q_put rfl hN fun ρ a w g hi => ⟨_, fun _ _ => rfl, val_rep hi hv⟩
theorem pick_ok {c : Operand} (hN : d < X.N) (h : stepPick st d c x y = .ok s) : QStep X D Γ st ⟨some d, .pick c x y, ty, ps, af, gd⟩ s := by
  unfold stepPick at h
  obtain ⟨v, hv, h⟩ := ok_bind h
  split at h
  · rename_i b
    obtain ⟨u, hu, h⟩ := ok_bind h
    simp only [Except.ok.injEq] at h
    subst h
    refine q_put rfl hN fun ρ a w g hi => ?_
    have hb : a.eval c = .bool b := by
      have := val_rep hi hv
      simp only [SV.enc, SC.enc, At.get, V.c] at this
      exact crep_bool this
    refine ⟨_, fun w' _ => ?_, val_rep hi hu⟩
    simp only [execOp, hb]
    cases b <;> rfl
  · cases h

/-! ### Integers and bools -/
theorem run_bin {P : Program} {w : World} {op : BinOp} {k k' : IntKind} {m n : Int} {v : Value} (ρ : Operand → Value) (hx : ρ x = .int k m) (hy : ρ y = .int k' n) (h : (Go.binOp op t (.int k m) (.int k' n)).run P w = .ok v w) :
    (execOp ρ ⟨some d, .binOp op t x y t', ty, ps, af, gd⟩).run P w = .ok (.value v) w := by
  simp only [execOp, hx, hy]
  have e : eqGuard op t x y (.int k m) (.int k' n) = pure () := by
    unfold eqGuard; split <;> rfl
  rw [e]
  simp only [Sem.run_bind, Sem.run_pure, Result.andThen_ok, h]
theorem binA_run {P : Program} {w : World} {op : BinOp} {b : BinA} {k : IntKind} {m n : Int} (h : binA op = some b) : (Go.binOp op t (.int k m) (.int k n)).run P w = .ok (.int k (b.den k m n)) w := by
  cases op <;> simp [binA] at h <;> subst h <;> simp [Go.binOp, Op.intArith, Op.intBits, BinA.den, wrap, gand, gor, gxor]
theorem ne_dec (m n : Int) : (m != n) = decide (m ≠ n) := by by_cases h : m = n <;> simp [h]
theorem cmpA_run {P : Program} {w : World} {op : BinOp} {c : CmpA} {k : IntKind} {m n : Int} (h : cmpA op = some c) : (Go.binOp op t (.int k m) (.int k n)).run P w = .ok (.bool (c.den m n)) w := by
  cases op <;> simp [cmpA] at h <;> subst h <;> simp [Go.binOp, Op.intCmp, CmpA.den, ne_dec] <;> rfl
theorem binInt_ok {op : BinOp} {k k' : IntKind} {m n : At} (hN : d < X.N) (hx : st.val x = .ok (.c (.v m))) (hy : st.val y = .ok (.c (.v n))) (hm : st.ty m = .ok (.int k)) (hn : st.ty n = .ok (.int k')) (h : stepBinInt st d op k k' m n = .ok s) :
    QStep X D Γ st ⟨some d, .binOp op t x y t', ty, ps, af, gd⟩ s := by
  have shiftOk : ∀ (l : Bool), op = (if l then .shl else .shr) → s = step1 st d (.shift l k m n) (.int k) (.c ∘ .v) → QStep X D Γ st ⟨some d, .binOp op t x y t', ty, ps, af, gd⟩ s := fun l ho hs => by
    subst hs
    refine q_step1 rfl hN fun ρ a w g v' hi hv' => ?_
    simp only [Ex.den1, Ex.den, gshift, Option.bind_eq_some_iff] at hv'
    obtain ⟨z, hz, hv'⟩ := hv'
    split at hz
    · rename_i hb
      simp only [Option.some.injEq] at hz hv'
      subst hv'
      refine ⟨rfl, .int k z, fun w' _ => run_bin _ (val_int hi hx hm) (val_int hi hy hn) ?_, .int k z⟩
      have h1 : ¬ (n.get ρ).int < 0 := by omega
      have h2 : min (n.get ρ).int.toNat k.bits = (n.get ρ).int.toNat := by omega
      subst ho
      cases l <;> simp [Go.binOp, Op.shift, h1, h2, ← hz, wrap]
    · cases hz
  unfold stepBinInt at h
  split at h
  · simp only [Except.ok.injEq] at h; exact shiftOk true rfl h.symm
  · simp only [Except.ok.injEq] at h; exact shiftOk false rfl h.symm
  · split at h
    · cases h
    · rename_i _ _ hk
      have hk : k = k' := Decidable.of_not_not hk
      subst hk
      split at h
      · rename_i b hb
        simp only [Except.ok.injEq] at h
        subst h
        refine q_step1 rfl hN fun ρ a w g v' hi hv' => ?_
        simp only [Ex.den1, Ex.den, Option.some.injEq] at hv'
        subst hv'
        exact ⟨rfl, _, fun w' _ => run_bin _ (val_int hi hx hm) (val_int hi hy hn) (binA_run hb), .int _ _⟩
      · split at h
        · rename_i c hc
          simp only [Except.ok.injEq] at h
          subst h
          refine q_step1 rfl hN fun ρ a w g v' hi hv' => ?_
          simp only [Ex.den1, Ex.den, Option.some.injEq] at hv'
          subst hv'
          exact ⟨rfl, _, fun w' _ => run_bin _ (val_int hi hx hm) (val_int hi hy hn) (cmpA_run hc), .bool _⟩
        · split at h
          · simp only [Except.ok.injEq] at h
            subst h
            refine q_step1 rfl hN fun ρ a w g v' hi hv' => ?_
            simp only [Ex.den1, Ex.den, gdiv, Option.bind_eq_some_iff] at hv'
            obtain ⟨z, hz, hv'⟩ := hv'
            split at hz
            · cases hz
            · rename_i h0
              simp only [Option.some.injEq] at hz hv'
              subst hv'
              refine ⟨rfl, .int k z, fun w' _ => run_bin _ (val_int hi hx hm) (val_int hi hy hn) ?_, .int k z⟩
              simp [Go.binOp, Op.intDiv, h0, ← hz, wrap]
          · simp only [Except.ok.injEq] at h
            subst h
            refine q_step1 rfl hN fun ρ a w g v' hi hv' => ?_
            simp only [Ex.den1, Ex.den, grem, Option.bind_eq_some_iff] at hv'
            obtain ⟨z, hz, hv'⟩ := hv'
            split at hz
            · cases hz
            · rename_i h0
              simp only [Option.some.injEq] at hz hv'
              subst hv'
              refine ⟨rfl, .int k z, fun w' _ => run_bin _ (val_int hi hx hm) (val_int hi hy hn) ?_, .int k z⟩
              simp [Go.binOp, Op.intDiv, h0, ← hz]
          · cases h
theorem run_equalIn_bool {P : Program} {w : World} {t : TypeId} (n : Nat) (a b : Bool) (h : P.underlying t = some .bool) : (Op.equalIn (n + 1) t (.bool a) (.bool b)).run P w = .ok (a == b) w := by
  simp [Op.equalIn, run_underlying h]
theorem run_neq_bool {P : Program} {w : World} {t : TypeId} (a b : Bool) (h : P.underlying t = some .bool) : (Go.binOp .neq t (.bool a) (.bool b)).run P w = .ok (.bool (true ^^ (a == b))) w := by
  simp only [Go.binOp]
  simp [Op.equal, Op.maxDepth, run_equalIn_bool 9999 a b h]
theorem run_eql_bool {P : Program} {w : World} {t : TypeId} (a b : Bool) (h : P.underlying t = some .bool) : (Go.binOp .eql t (.bool a) (.bool b)).run P w = .ok (.bool (false ^^ (a == b))) w := by
  simp only [Go.binOp]
  simp [Op.equal, Op.maxDepth, run_equalIn_bool 9999 a b h]
theorem run_bin_bool {P : Program} {w : World} (op : BinOp) (k k' : Bool) (v : Value) (h : (Go.binOp op t (.bool k) (.bool k')).run P w = .ok v w) (ρ : Operand → Value) (hx : ρ x = .bool k) (hy : ρ y = .bool k') :
    (execOp ρ ⟨some d, .binOp op t x y t', ty, ps, af, gd⟩).run P w = .ok (.value v) w := by
  simp only [execOp, hx, hy]
  have e : eqGuard op t x y (.bool k) (.bool k') = pure () := by
    unfold eqGuard; split <;> rfl
  rw [e]
  simp only [Sem.run_bind, Sem.run_pure, Result.andThen_ok, h]
theorem binBool_ok {op : BinOp} {m n : At} (hN : d < X.N) (hu : X.P.underlying t = some .bool) (hx : st.val x = .ok (.c (.v m))) (hy : st.val y = .ok (.c (.v n))) (hm : st.ty m = .ok .bool) (hn : st.ty n = .ok .bool) (h : stepBinBool st d op m n = .ok s) :
    QStep X D Γ st ⟨some d, .binOp op t x y t', ty, ps, af, gd⟩ s := by
  unfold stepBinBool at h
  split at h
  · simp only [Except.ok.injEq] at h
    subst h
    refine q_step1 rfl hN fun ρ a w g v' hi hv' => ?_
    simp only [Ex.den1, Ex.den, Option.some.injEq] at hv'
    subst hv'
    exact ⟨rfl, _, fun w' _ => run_bin_bool _ _ _ _ (run_eql_bool _ _ hu) _ (val_bool hi hx hm) (val_bool hi hy hn), .bool _⟩
  · simp only [Except.ok.injEq] at h
    subst h
    refine q_step1 rfl hN fun ρ a w g v' hi hv' => ?_
    simp only [Ex.den1, Ex.den, Option.some.injEq] at hv'
    subst hv'
    exact ⟨rfl, _, fun w' _ => run_bin_bool _ _ _ _ (run_neq_bool _ _ hu) _ (val_bool hi hx hm) (val_bool hi hy hn), .bool _⟩
  · cases h
theorem elem_under {P : Program} {t e : TypeId} (h : elemOf P t = some e) : P.underlying t = some (.slice e) := by
  unfold elemOf at h
  cases hu : P.underlying t with
  | none => simp [hu] at h
  | some d => cases d <;> simp [hu] at h; rw [h]
theorem run_equalIn_nil {P : Program} {w : World} {t e : TypeId} (n : Nat) (A : Option Addr) (m c : Nat) (h : P.underlying t = some (.slice e)) : (Op.equalIn (n + 1) t (.slice A m c) (.slice none 0 0)).run P w = .ok A.isNone w := by
  cases A <;> simp [Op.equalIn, run_underlying h]
theorem run_nil_eq {P : Program} {w : World} {e : TypeId} {A : Option Addr} {n cap : Nat} (op : BinOp) (b : Bool) (hu : P.underlying t = some (.slice e)) (ho : op = .eql ∧ b = A.isNone ∨ op = .neq ∧ b = !A.isNone) (ρ : Operand → Value) (hx : ρ x = .slice A n cap) (hy : ρ y = .slice none 0 0) :
    (execOp ρ ⟨some d, .binOp op t x y t', ty, ps, af, gd⟩).run P w = .ok (.value (.bool b)) w := by
  simp only [execOp, hx, hy]
  have e : eqGuard op t x y (.slice A n cap) (.slice none 0 0) = pure () := by
    unfold eqGuard; split <;> rfl
  rw [e]
  have h1 : (Op.equal t (.slice A n cap) (.slice none 0 0)).run P w = .ok A.isNone w := by
    exact run_equalIn_nil 9999 A n cap hu
  rcases ho with ⟨rfl, rfl⟩ | ⟨rfl, rfl⟩
  · simp [Go.binOp, h1]
  · simp [Go.binOp, h1]
theorem row_of (h : TInv X D st ρ a w g) {r : Nat} {e : TypeId} {a' : Ty} {v : At} {nl : Bool} {inner : Option Rg} (hr : st.rk r = .list e a' v nl inner) :
    RowRep X.P w g (r, []) (.row false nl e (((v.get ρ).as (.sl e a')).mapIdx fun i y => encIn inner r i a' y)) :=
  h.inv.row (r, []) _ (by simp only [hr, RK.rows])
theorem binNil_ok {op : BinOp} {c : SC} {e : TypeId} (hN : d < X.N) (hu : elemOf X.P t = some e) (hx : st.val x = .ok (.c c)) (hy : st.val y = .ok (.c .nil)) (h : stepBinNil st d op c = .ok s) :
    QStep X D Γ st ⟨some d, .binOp op t x y t', ty, ps, af, gd⟩ s := by
  have hu' := elem_under hu
  have ny : ∀ {ρ a w g}, TInv X D st ρ a w g → a.eval y = .slice none 0 0 := fun hi => by
    have := val_rep hi hy
    simp only [SV.enc, SC.enc] at this
    generalize Act.eval _ y = u at this
    cases this; rfl
  unfold stepBinNil at h
  split at h
  · have nx : ∀ {ρ a w g}, TInv X D st ρ a w g → a.eval x = .slice none 0 0 := fun hi => by
      have := val_rep hi hx
      simp only [SV.enc, SC.enc] at this
      generalize Act.eval _ x = u at this
      cases this; rfl
    split at h
    · simp only [Except.ok.injEq] at h
      subst h
      exact q_put rfl hN fun ρ a w g hi => ⟨.bool true, fun w' _ => run_nil_eq _ _ hu' (.inl ⟨rfl, rfl⟩) _ (nx hi) (ny hi), .bool true⟩
    · simp only [Except.ok.injEq] at h
      subst h
      exact q_put rfl hN fun ρ a w g hi => ⟨.bool false, fun w' _ => run_nil_eq _ _ hu' (.inr ⟨rfl, rfl⟩) _ (nx hi) (ny hi), .bool false⟩
    · cases h
  · rename_i r
    split at h
    · rename_i e' a' v nl inner hr
      split at h
      case isFalse => cases h
      rename_i hvt
      simp only [Except.ok.injEq] at h
      subst h
      refine q_step1 rfl hN fun ρ a w g v' hi hv' => ?_
      have hrow := row_of hi hr
      have hh : a.eval x = g.hdr (r, []) := by
        have := val_rep hi hx
        simp only [SV.enc, SC.enc] at this
        generalize Act.eval _ x = u at this
        cases this; assumption
      have hvg := V.list_of (At.ty_get hi.typ hvt)
      generalize (v.get ρ).as (.sl e' a') = xs at hrow hvg
      simp only [Ex.den1, Ex.den, hvg, gnil, Option.bind_eq_some_iff, Option.some.injEq] at hv'
      obtain ⟨b, hb, rfl⟩ := hv'
      have hz : ∀ (l : List (List C)), (xs.mapIdx fun i y => encIn inner r i a' y) = l → (l = [] ↔ xs = []) := fun l hl => by
        rw [← hl, List.mapIdx_eq_nil_iff]
      refine ⟨rfl, .bool b, ?_, .bool b⟩
      split at hb
      · rename_i hc
        simp only [Option.some.injEq] at hb
        simp only [Bool.or_eq_true, Bool.not_eq_true'] at hc
        generalize hl : (xs.mapIdx fun i y => encIn inner r i a' y) = l at hrow
        have hz := hz l hl
        cases hrow with
        | nil _ _ hd =>
          refine fun w' _ => run_nil_eq (A := none) _ _ hu' (.inl ⟨rfl, ?_⟩) _ (hh.trans hd) (ny hi)
          rw [← hb, hz.1 rfl]; rfl
        | zero _ A hd =>
          rw [hz.1 rfl] at hc
          simp at hc
        | full _ _ _ _ bb base n cap cs f hf =>
          refine fun w' _ => run_nil_eq (A := some ⟨bb, base, none⟩) _ _ hu' (.inl ⟨rfl, ?_⟩) _ (hh.trans hf.hd) (ny hi)
          have hne : xs ≠ [] := by
            rcases hc with hc | hc
            · exact fun e0 => hf.nonil hc (hz.2 e0)
            · exact fun e0 => by rw [e0] at hc; simp at hc
          rw [← hb]
          cases xs with
          | nil => exact absurd rfl hne
          | cons _ _ => rfl
      · cases hb
    · cases h
  · cases h
theorem bin_ok {op : BinOp} (hN : d < X.N) (h : stepBin X.P st d op t x y = .ok s) : QStep X D Γ st ⟨some d, .binOp op t x y t', ty, ps, af, gd⟩ s := by
  unfold stepBin at h
  obtain ⟨vx, hx, h⟩ := ok_bind h
  obtain ⟨vy, hy, h⟩ := ok_bind h
  split at h
  · obtain ⟨tx, hm, h⟩ := ok_bind h
    obtain ⟨tn, hn, h⟩ := ok_bind h
    split at h
    · exact binInt_ok hN hx hy hm hn h
    · split at h
      · rename_i hu; exact binBool_ok hN hu hx hy hm hn h
      · cases h
    · cases h
  · split at h
    · rename_i e he; exact binNil_ok hN he hx hy h
    · cases h
  · cases h
theorem not_ok (hN : d < X.N) (h : stepNot st d x = .ok s) : QStep X D Γ st ⟨some d, .unOp .not t x, ty, ps, af, gd⟩ s := by
  unfold stepNot at h
  obtain ⟨y, hy, h⟩ := ok_bind h
  obtain ⟨h1, h2⟩ := boolOf_ok hy
  split at h
  · rename_i b
    simp only [Except.ok.injEq] at h
    subst h
    refine q_put rfl hN fun ρ a w g hi => ⟨.bool (!b), fun w' _ => ?_, .bool (!b)⟩
    have := val_bool hi h1 h2
    simp only [execOp, this]; rfl
  · simp only [Except.ok.injEq] at h
    subst h
    refine q_step1 rfl hN fun ρ a w g v' hi hv' => ?_
    simp only [Ex.den1, Ex.den, Option.some.injEq] at hv'
    subst hv'
    refine ⟨rfl, _, fun w' _ => ?_, .bool _⟩
    have := val_bool hi h1 h2
    simp only [execOp, this]; rfl
theorem neg_ok (hN : d < X.N) (h : stepNeg st d x = .ok s) : QStep X D Γ st ⟨some d, .unOp .neg t x, ty, ps, af, gd⟩ s := by
  unfold stepNeg at h
  obtain ⟨⟨k, y⟩, hy, h⟩ := ok_bind h
  obtain ⟨h1, h2⟩ := intOf_ok hy
  simp only [Except.ok.injEq] at h
  subst h
  refine q_step1 rfl hN fun ρ a w g v' hi hv' => ?_
  simp only [Ex.den1, Ex.den, Option.some.injEq] at hv'
  subst hv'
  refine ⟨rfl, _, fun w' _ => ?_, .int _ _⟩
  have := val_int hi h1 h2
  simp only [execOp, this]; rfl
theorem conv_ok (hN : d < X.N) (h : stepConv X.P st d t t' x = .ok s) : QStep X D Γ st ⟨some d, .convert t t' x, ty, ps, af, gd⟩ s := by
  unfold stepConv at h
  obtain ⟨⟨k, y⟩, hy, h⟩ := ok_bind h
  obtain ⟨h1, h2⟩ := intOf_ok hy
  simp only at h
  split at h
  · rename_i k1 k2 hu hu'
    split at h
    · rename_i hk
      subst hk
      simp only [Except.ok.injEq] at h
      subst h
      refine q_step1 rfl hN fun ρ a w g v' hi hv' => ?_
      simp only [Ex.den1, Ex.den, Option.some.injEq] at hv'
      subst hv'
      refine ⟨rfl, _, fun w' _ => ?_, .int _ _⟩
      have := val_int hi h1 h2
      simp [execOp, this, convert, run_underlying hu, run_underlying hu', Conv.intToInt, wrap]
    · cases h
  · cases h
theorem nilCheck_ok (hN : d < X.N) (h : stepNilCheck st d x = .ok s) : QStep X D Γ st ⟨some d, .nilCheck x, ty, ps, af, gd⟩ s := by
  unfold stepNilCheck at h
  obtain ⟨v, hv, h⟩ := ok_bind h
  have fin : ∀ {ρ a w g} (A : Addr), TInv X D st ρ a w g → a.eval x = .pointer (some A) → ∃ u, (∀ w', Cls D ⟨some d, .nilCheck x, ty, ps, af, gd⟩ w w' → (execOp a.eval ⟨some d, .nilCheck x, ty, ps, af, gd⟩).run X.P w' = .ok (.value u) w') ∧ PRep X.P w g (v.enc ρ) u := fun A hi he =>
    ⟨_, fun w' _ => by simp only [execOp, he]; rfl, he ▸ val_rep hi hv⟩
  split at h
  · rename_i r
    split at h
    · rename_i e cells hr
      simp only [Except.ok.injEq] at h
      subst h
      refine q_put rfl hN fun ρ a w g hi => ?_
      have hp := val_rep hi hv
      simp only [SV.enc, SC.enc] at hp
      have hh : a.eval x = g.hdr (r, []) := by
        generalize Act.eval _ x = u at hp
        cases hp; assumption
      have hrow : RowRep X.P w g (r, []) (.row true false e [encL ρ cells]) := hi.inv.row (r, []) _ (by simp only [hr, RK.rows])
      cases hrow with
      | full _ _ _ _ b base n cap cs f hf => exact fin ⟨b, base, none⟩ hi (hh.trans hf.hd)
    · cases h
  · rename_i rg cells
    simp only [Except.ok.injEq] at h
    subst h
    refine q_put rfl hN fun ρ a w g hi => ?_
    have hp := val_rep hi hv
    simp only [SV.enc, SC.enc] at hp
    obtain ⟨b, off, he⟩ : ∃ b off, a.eval x = .pointer (some ⟨b, off, none⟩) := by
      generalize Act.eval _ x = u at hp
      cases hp; exact ⟨_, _, rfl⟩
    exact fin _ hi he
  · cases h
theorem extract_ok {i : Nat} (hN : d < X.N) (h : stepExtract st d x i = .ok s) : QStep X D Γ st ⟨some d, .extract x i, ty, ps, af, gd⟩ s := by
  unfold stepExtract at h
  obtain ⟨v, hv, h⟩ := ok_bind h
  split at h
  · rename_i rs
    have key : ∀ {ρ a w g} (y : Bool × List SC), rs[i]? = some y → TInv X D st ρ a w g → ∃ u, (∀ w', Cls D ⟨some d, .extract x i, ty, ps, af, gd⟩ w w' → (execOp a.eval ⟨some d, .extract x i, ty, ps, af, gd⟩).run X.P w' = .ok (.value u) w') ∧ RRep w g (encR ρ y) u := fun {ρ a w g} y hy hi => by
      have hp := val_rep hi hv
      simp only [SV.enc] at hp
      obtain ⟨vs, h1, h2, h3⟩ := hp
      obtain ⟨u, hu, hr⟩ := h3 i (encR ρ y) (by rw [List.getElem?_map, hy]; rfl)
      exact ⟨u, fun w' _ => by simp [execOp, h1, Instr.extract, hu], hr⟩
    split at h
    · rename_i c hc
      simp only [Except.ok.injEq] at h
      subst h
      exact q_put rfl hN fun ρ a w g hi => by
        obtain ⟨u, h1, h2⟩ := key _ hc hi
        refine ⟨u, h1, ?_⟩
        simp only [encR, encL, Bool.false_eq_true, if_false] at h2
        exact h2
    · rename_i cs hc
      simp only [Except.ok.injEq] at h
      subst h
      exact q_put rfl hN fun ρ a w g hi => by
        obtain ⟨u, h1, h2⟩ := key _ hc hi
        refine ⟨u, h1, ?_⟩
        simp only [encR, if_true] at h2
        exact h2
    · cases h
  · cases h
theorem minmax_ok {mn : Bool} {ats : Array TypeId} (hN : d < X.N) (h : stepMinMax mn st d x y = .ok s) : QStep X D Γ st ⟨some d, .call { callee := .builtin (if mn then .min else .max), args := #[x, y], argTypes := ats }, ty, ps, af, gd⟩ s := by
  unfold stepMinMax at h
  obtain ⟨⟨k, m⟩, hm, h⟩ := ok_bind h
  obtain ⟨⟨k', n⟩, hn, h⟩ := ok_bind h
  obtain ⟨m1, m2⟩ := intOf_ok hm
  obtain ⟨n1, n2⟩ := intOf_ok hn
  simp only at h
  split at h
  · rename_i hk
    obtain ⟨rfl, rfl⟩ := hk
    simp only [Except.ok.injEq] at h
    subst h
    refine q_step1 rfl hN fun ρ a w g v' hi hv' => ?_
    have e1 := val_int hi m1 m2
    have e2 := val_int hi n1 n2
    cases mn
    · simp only [Ex.den1, Ex.den, Option.some.injEq, Bool.false_eq_true, if_false] at hv'
      subst hv'
      exact ⟨rfl, _, fun w' _ => by simp [execOp, resolve, invoke, builtin, Builtin.max_, Builtin.max2, e1, e2], .int _ _⟩
    · simp only [Ex.den1, Ex.den, Option.some.injEq, if_true] at hv'
      subst hv'
      exact ⟨rfl, _, fun w' _ => by simp [execOp, resolve, invoke, builtin, Builtin.min_, Builtin.min2, e1, e2], .int _ _⟩
  · cases h
end
end Go.Pu
/-
  Own work. The operations that read memory, and addresses.
-/
namespace Go.Pu
open Go Go.RowKit
set_option linter.unusedVariables false

theorem addr_add (b off j : Nat) : (⟨b, off, none⟩ : Addr).add j = ⟨b, off + j, none⟩ := by
  unfold Addr.add
  split
  · rename_i h; subst h; rfl
  · rfl
section
variable {P : Program} {w : World}
theorem info_of_sz {t : TypeId} {n : Nat} (h : szOf P t = n + 1) : ∃ i, P.info? t = some i ∧ i.size = n + 1 := by
  unfold szOf at h
  cases hi : P.info? t with
  | none => simp [hi] at h
  | some i => rw [hi] at h; exact ⟨i, rfl, h⟩
theorem run_sizeOf {t : TypeId} (h : 0 < szOf P t) : (sizeOf t).run P w = .ok (szOf P t) w := by
  obtain ⟨n, hn⟩ : ∃ n, szOf P t = n + 1 := ⟨szOf P t - 1, by omega⟩
  obtain ⟨i, hi, hs⟩ := info_of_sz hn
  rw [hn]
  simp [sizeOf, typeInfo, hi, hs]
theorem aggOf_some {t : TypeId} {b : Bool} (h : aggOf P t = some b) : (isAgg t).run P w = .ok b w := by
  unfold aggOf at h
  cases hu : P.underlying t with
  | none => simp [hu] at h
  | some d => cases d <;> simp [hu] at h <;> subst h <;> simp [isAgg, run_underlying hu]
theorem run_load_one {t : TypeId} (h0 : aggOf P t = some false) {a : Addr} {v : Value} (hc : w.cell? a = some v) : (loadVar t a).run P w = .ok v w := by
  simp [loadVar, aggOf_some h0, run_load, hc]
theorem run_load_agg {t : TypeId} {cs : List Value} (h : aggOf P t = some true) (hs : szOf P t = cs.length) (h0 : 0 < szOf P t) {a : Addr} (hc : ∀ (j : Nat) (v : Value), cs[j]? = some v → w.cell? (a.add j) = some v) :
    (loadVar t a).run P w = .ok (.agg cs.toArray) w := by
  have hl := run_loadCells_list (P := P) w a cs hc
  have h2 : (sizeOf t).run P w = .ok cs.length w := by rw [← hs]; exact run_sizeOf h0
  simp [loadVar, aggOf_some h, h2, hl]
theorem run_fieldAt {t : TypeId} {fi off n : Nat} (h : fldOf P t fi = some (off, n)) (hn : n ≠ 0) (a : Addr) : (Instr.fieldAt t (.pointer (some a)) fi).run P w = .ok (.pointer (some (a.add off))) w := by
  unfold fldOf at h
  cases hu : P.underlying t with
  | none => simp [hu] at h
  | some d =>
    cases d <;> simp [hu] at h
    rename_i fs
    cases hf : fs[fi]? with
    | none => simp [hf] at h
    | some f =>
      simp only [hf, Option.some.injEq, Prod.mk.injEq] at h
      have hs := run_sizeOf (P := P) (w := w) (t := f.type) (by omega)
      have h0 : ¬ szOf P f.type = 0 := by omega
      simp [Instr.fieldAt, run_underlying hu, hf, Instr.sureAddr, fieldPlace, hs, h.1, h0]
theorem run_indexAt {t e : TypeId} (h : elemOf P t = some e) (hs : 0 < szOf P e) (a : Addr) (len cap : Nat) (z : Int) (h0 : 0 ≤ z) (h1 : z < (len : Int)) :
    (Instr.indexAt t (.slice (some a) len cap) (.int .i64 z)).run P w = .ok (.pointer (some (a.add (z.toNat * szOf P e)))) w := by
  have hu := elem_under h
  simp [Instr.indexAt, asIntOf, run_underlying hu, h0, h1, run_sizeOf hs]
theorem list_of_fun {n : Nat} (f : Nat → Value) (j : Nat) (v : Value) (h : ((List.range n).map f)[j]? = some v) : j < n ∧ v = f j := by
  simp only [List.getElem?_map, Option.map_eq_some_iff] at h
  obtain ⟨a, ha, rfl⟩ := h
  rw [List.getElem?_eq_some_iff] at ha
  obtain ⟨h1, h2⟩ := ha
  simp at h1 h2
  exact ⟨h1, by rw [h2]⟩
end

/-! ### Cells of an element -/
theorem vu_proj (p : List Bool) : V.u.proj p = V.u := by
  cases p with
  | nil => rfl
  | cons b p => simp [V.u, V.proj]
theorem proj_app : ∀ (p q : List Bool) (v : V), v.proj (p ++ q) = (v.proj p).proj q
  | [], q, v => by cases v; rfl
  | false :: p, q, ⟨.pr a b, x⟩ => by simp only [List.cons_append, V.proj]; exact proj_app p q _
  | true :: p, q, ⟨.pr a b, x⟩ => by simp only [List.cons_append, V.proj]; exact proj_app p q _
  | _ :: p, q, ⟨.int _, _⟩ => by simp only [List.cons_append, V.proj, vu_proj]
  | _ :: p, q, ⟨.bool, _⟩ => by simp only [List.cons_append, V.proj, vu_proj]
  | _ :: p, q, ⟨.unit, _⟩ => by simp only [List.cons_append, V.proj, vu_proj]
  | _ :: p, q, ⟨.sl _ _, _⟩ => by simp only [List.cons_append, V.proj, vu_proj]
  | _ :: p, q, ⟨.mp, _⟩ => by simp only [List.cons_append, V.proj, vu_proj]
theorem encL_app2 (ρ : Env) (xs ys : List SC) : encL ρ (xs ++ ys) = encL ρ xs ++ encL ρ ys := by simp only [encL_map, List.map_append]
theorem cellsOf_enc (rg : Rg) (n : Nat) (ρ : Env) : ∀ (t : Ty) (p : List Bool) (x : t.den), (Ref.get ρ ⟨n, p⟩) = ⟨t, x⟩ → encL ρ (cellsOf rg n p t) = enc rg t x
  | .int k, p, x, h => by simp only [cellsOf, encL, SC.enc, At.get, h, V.c, enc]
  | .bool, p, x, h => by simp only [cellsOf, encL, SC.enc, At.get, h, V.c, enc]
  | .unit, p, x, h => by simp only [cellsOf, encL, enc]
  | .pr a b, p, x, h => by
    simp only [cellsOf, encL_app2, enc]
    rw [cellsOf_enc rg n ρ a (p ++ [false]) x.1 (by simp only [Ref.get, proj_app] at h ⊢; rw [h]; rfl), cellsOf_enc rg n ρ b (p ++ [true]) x.2 (by simp only [Ref.get, proj_app] at h ⊢; rw [h]; rfl)]
  | .sl e a, p, x, h => by simp only [cellsOf, encL, SC.enc, At.get, h, V.els, enc]
  | .mp, p, x, h => by simp only [cellsOf, encL, SC.enc, enc]

section
variable {X : Ctx} {D : Nat → Prop} {Γ : List FE} {st : St} {ρ : Env} {a : Act} {w : World} {g : G}
/-- What a slice's header says, and its cells, where it is only looked at. -/
inductive LV (w : World) (g : G) (els : List (List C)) : Value → Prop
  | mk (A : Option Addr) (n cap : Nat) (hn : n = els.length) : LV w g els (.slice A n cap)
theorem ro_len {rg : Rg} {els : List (List C)} {u : Value} (h : CRep w g (.ro rg els) u) : LV w g els u := by
  cases h with
  | ro0 _ A cap => exact .mk A 0 cap rfl
  | ro _ _ b off n cap s f hn => exact .mk _ n cap hn
theorem row_len {P : Program} {l : Loc} {nl : Bool} {e : TypeId} {els : List (List C)} (h : RowRep P w g l (.row false nl e els)) : LV w g els (g.hdr l) := by
  cases h with
  | nil _ _ hd => rw [hd]; exact .mk none 0 0 rfl
  | zero _ A hd => rw [hd]; exact .mk _ 0 0 rfl
  | full _ _ _ _ b base n cap cs f hf => rw [hf.hd]; exact .mk _ n cap hf.len
theorem hd_eq {l : Loc} {u : Value} (h : CRep w g (.hd l) u) : u = g.hdr l := by cases h; assumption
theorem both_l {x y : C} {u : Value} (h : CRep w g (.both x y) u) : CRep w g x u := by cases h; assumption
theorem both_r {x y : C} {u : Value} (h : CRep w g (.both x y) u) : CRep w g y u := by cases h; assumption
theorem els_of {v : At} {e : TypeId} {b : Ty} {rg : Rg} (hi : TInv X D st ρ a w g) (ht : st.ty v = .ok (.sl e b)) : (v.get ρ).els rg = List.map (enc rg b) ((v.get ρ).as (.sl e b)) := by
  have := V.list_of (ty_get hi ht)
  rw [this]
  simp [V.els, V.as]
/-- A slice that is only read. -/
theorem list_ro (hi : TInv X D st ρ a w g) {c : SC} {v : At} {e : TypeId} {b : Ty} {u : Value} (hc : CRep w g (c.enc ρ) u) (hl : st.listVal c = .ok v) (ht : st.ty v = .ok (.sl e b)) :
    (∀ r, c ≠ .h r) → CRep w g (.ro (regOf c) (List.map (enc (regOf c) b) ((v.get ρ).as (.sl e b)))) u := by
  intro hne
  unfold St.listVal at hl
  split at hl
  · simp only [Except.ok.injEq] at hl; subst hl
    simp only [SC.enc, els_of hi ht] at hc; exact hc
  · simp only [Except.ok.injEq] at hl; subst hl
    simp only [SC.enc, els_of hi ht] at hc; exact both_r hc
  · simp only [Except.ok.injEq] at hl; subst hl
    simp only [SC.enc, els_of hi ht] at hc; exact both_r hc
  · rename_i r; exact absurd rfl (hne r)
  · cases hl
theorem listVal_h {r : Nat} {v : At} (hl : st.listVal (.h r) = .ok v) : ∃ e b nl inner, st.rk r = .list e b v nl inner ∧ v.ty st.ts = some (.sl e b) := by
  simp only [St.listVal] at hl
  split at hl
  · rename_i e b val nl inner hr
    split at hl
    · rename_i hv
      simp only [Except.ok.injEq] at hl
      subst hl
      exact ⟨e, b, nl, inner, hr, hv⟩
    · cases hl
  · cases hl
theorem len_of {v : At} {e : TypeId} {b : Ty} (hi : TInv X D st ρ a w g) (ht : st.ty v = .ok (.sl e b)) : (v.get ρ).len = ((v.get ρ).as (.sl e b)).length := by
  have := V.list_of (ty_get hi ht)
  rw [this]
  simp [V.len, V.as]
theorem ok_ty {v : At} {t : Ty} (h : v.ty st.ts = some t) : st.ty v = .ok t := by unfold St.ty; rw [h]
theorem ty_inj {v : At} {t t' : Ty} (h : st.ty v = .ok t) (h' : st.ty v = .ok t') : t = t' := by rw [h] at h'; exact Except.ok.inj h'
theorem list_len (hi : TInv X D st ρ a w g) {c : SC} {v : At} {e : TypeId} {b : Ty} {u : Value} (hc : CRep w g (c.enc ρ) u) (hl : st.listVal c = .ok v) (ht : st.ty v = .ok (.sl e b)) :
    ∃ A cap, u = .slice A (v.get ρ).len cap := by
  by_cases hh : ∃ r, c = .h r
  · obtain ⟨r, rfl⟩ := hh
    obtain ⟨e', b', nl, inner, hr, hv⟩ := listVal_h hl
    simp only [SC.enc] at hc
    rw [hd_eq hc]
    have hrow := row_len (row_of hi hr)
    rw [len_of hi (ok_ty hv)]
    generalize g.hdr (r, []) = u' at hrow
    cases hrow with
    | mk A n cap hn => simp only [List.length_mapIdx] at hn; subst hn; exact ⟨A, cap, rfl⟩
  · have := ro_len (list_ro hi hc hl ht (fun r hr => hh ⟨r, hr⟩))
    rw [len_of hi ht]
    cases this with
    | mk A n cap hn => simp only [List.length_map] at hn; subst hn; exact ⟨A, cap, rfl⟩

variable {d : Nat} {x y : Operand} {t t' ty : TypeId} {ps : String} {af : Array Edge} {gd : Option (Nat × Bool)} {s : Step}
theorem run_len {P : Program} {w : World} {ρ : Operand → Value} {A : Option Addr} {n cap : Nat} (he : elemOf P t ≠ none) (hx : ρ x = .slice A n cap) :
    (execOp ρ ⟨some d, .call { callee := .builtin .len, args := #[x], argTypes := #[t] }, ty, ps, af, gd⟩).run P w = .ok (.value (.int .i64 (n : Int))) w := by
  obtain ⟨e, he⟩ := Option.ne_none_iff_exists'.1 he
  have hu := elem_under he
  simp [execOp, resolve, invoke, builtin, Builtin.len_, hx, run_underlying hu, goInt]
theorem len_ok (hN : d < X.N) (h : stepLen X.P st d t x = .ok s) : QStep X D Γ st ⟨some d, .call { callee := .builtin .len, args := #[x], argTypes := #[t] }, ty, ps, af, gd⟩ s := by
  unfold stepLen at h
  split at h
  · cases h
  · rename_i e he
    have he' : elemOf X.P t ≠ none := by rw [he]; exact Option.some_ne_none _
    obtain ⟨v, hv, h⟩ := ok_bind h
    split at h
    · simp only [Except.ok.injEq] at h
      subst h
      refine q_put rfl hN fun ρ a w g hi => ?_
      have hp := val_rep hi hv
      simp only [SV.enc, SC.enc] at hp
      have hx : a.eval x = .slice none 0 0 := by
        generalize Act.eval _ x = u at hp
        cases hp; rfl
      exact ⟨_, fun w' _ => run_len he' hx, .int _ _⟩
    · rename_i y hy
      obtain ⟨v, hl, h⟩ := ok_bind h
      obtain ⟨tv, ht, h⟩ := ok_bind h
      split at h
      · simp only [Except.ok.injEq] at h
        subst h
        refine q_step1 rfl hN fun ρ a w g v' hi hv' => ?_
        simp only [Ex.den1, Ex.den, Option.some.injEq] at hv'
        subst hv'
        have hp := val_rep hi hv
        obtain ⟨A, cap, hx⟩ := list_len hi hp hl ht
        exact ⟨rfl, _, fun w' _ => run_len he' hx, .int _ _⟩
      · cases h
    · cases h

/-! ### Addresses -/
theorem at_int_nat (ρ : Env) (k : IntKind) (z : Int) : At.nat ρ (.int k z) = z.toNat := rfl
theorem fieldAddr_ok {fi : Nat} (hN : d < X.N) (h : stepFieldAddr X.P st d t x fi = .ok s) : QStep X D Γ st ⟨some d, .fieldAddr t x fi, ty, ps, af, gd⟩ s := by
  unfold stepFieldAddr at h
  split at h
  · cases h
  · rename_i off sz hf
    split at h
    · cases h
    · rename_i hsz
      obtain ⟨v, hv, h⟩ := ok_bind h
      have run : ∀ {ρ : Operand → Value} {w : World} {b o : Nat}, ρ x = .pointer (some ⟨b, o, none⟩) → (execOp ρ ⟨some d, .fieldAddr t x fi, ty, ps, af, gd⟩).run X.P w = .ok (.value (.pointer (some ⟨b, o + off, none⟩))) w := fun hx => by
        simp only [execOp, hx, Sem.run_bind, run_fieldAt hf hsz, addr_add, Sem.run_pure, Result.andThen_ok]
      split at h
      · rename_i r
        split at h
        · rename_i e cells hr
          simp only [Except.ok.injEq] at h
          subst h
          refine q_put rfl hN fun ρ a w g hi => ?_
          have hp := val_rep hi hv
          simp only [SV.enc, SC.enc] at hp
          have hx := hd_eq hp
          have hrow : RowRep X.P w g (r, []) (.row true false e [encL ρ cells]) := hi.inv.row (r, []) _ (by simp only [hr, RK.rows])
          cases hrow with
          | full _ _ _ _ b base n cap cs f hf' =>
            have hd : g.hdr (r, []) = .pointer (some ⟨b, base, none⟩) := hf'.hd
            refine ⟨_, fun w' _ => run (hx.trans hd), b, base, .inr hd, ?_⟩
            simp [At.nat, At.get, V.int]
        · cases h
      · rename_i r e i k
        simp only [Except.ok.injEq] at h
        subst h
        refine q_put rfl hN fun ρ a w g hi => ?_
        obtain ⟨b, base, hd, hx⟩ := val_rep hi hv
        refine ⟨_, fun w' _ => run hx, b, base, hd, ?_⟩
        simp [Nat.add_assoc]
      · rename_i rg cells
        simp only [Except.ok.injEq] at h
        subst h
        refine q_put rfl hN fun ρ a w g hi => ?_
        obtain ⟨b, o, f, hS, hx, hc⟩ := val_rep hi hv
        refine ⟨_, fun w' _ => run hx, b, o + off, fun j => f (off + j), hS, rfl, fun k q hq => ?_⟩
        rw [encL_map, List.map_drop, List.getElem?_drop] at hq
        rw [Nat.add_assoc]
        exact hc (off + k) q (by rw [encL_map]; exact hq)
      · rename_i rg cells
        simp only [Except.ok.injEq] at h
        subst h
        refine q_put rfl hN fun ρ a w g hi => ?_
        have hp := val_rep hi hv
        simp only [SV.enc, SC.enc] at hp
        generalize hx : a.eval x = u at hp
        have hp : CRep w g (.rp rg (encL ρ cells)) u := hp
        cases hp with
        | rp _ _ b o f hS hcell hrep =>
          refine ⟨_, fun w' _ => run hx, b, o + off, fun j => f (off + j), hS, rfl, fun k q hq => ?_⟩
          rw [encL_map, List.map_drop, List.getElem?_drop] at hq
          rw [Nat.add_assoc]
          exact ⟨hcell (off + k) q (by rw [encL_map]; exact hq), hrep (off + k) q (by rw [encL_map]; exact hq)⟩
      · cases h
theorem gget_ok {α : Type} {d : α} {xs : List α} {i : Int} {y : α} (h : gget d xs i = some y) : 0 ≤ i ∧ i < (xs.length : Int) ∧ xs[i.toNat]? = some y := by
  unfold gget at h
  split at h
  · rename_i hi
    simp only [Option.some.injEq] at h
    refine ⟨hi.1, hi.2, ?_⟩
    have hlt : i.toNat < xs.length := by omega
    rw [List.getD, List.getElem?_eq_getElem hlt] at h
    rw [List.getElem?_eq_getElem hlt, ← h]; rfl
  · cases h
theorem gin_ok {n : Nat} {i : Int} {u : Unit} (h : gin n i = some u) : 0 ≤ i ∧ i < (n : Int) := by
  unfold gin at h
  split at h
  · assumption
  · cases h
theorem idx_own {i : At} {k0 : IntKind} (hN : d < X.N) {r : Nat} {e : TypeId} {b : Ty} {v : At} (hx : st.val x = .ok (.c (.h r))) (hy : st.val y = .ok (.c (.v i))) (hyt : st.ty i = .ok (.int .i64)) (he : elemOf X.P t = some e) (hn : b.n = szOf X.P e) (hpos : 0 < b.n) (hvt : v.ty st.ts = some (.sl e b))
    (hrow : ∀ ρ a w g, TInv X D st ρ a w g → ∃ nl els, RowRep X.P w g (r, []) (.row false nl e els) ∧ els.length = ((v.get ρ).as (.sl e b)).length) :
    QStep X D Γ st ⟨some d, .indexAddr t x y, ty, ps, af, gd⟩ ⟨[(.idx v i, .unit)], (st.bind .unit).put d (.ad r e i 0)⟩ :=
  q_bind rfl hN fun ρ a w g v' hi hv' => by
    simp only [Ex.den1, Ex.den, Option.bind_eq_some_iff, Option.some.injEq] at hv'
    obtain ⟨_, hgi, rfl⟩ := hv'
    obtain ⟨h0, h1⟩ := gin_ok hgi
    rw [len_of hi (ok_ty hvt)] at h1
    obtain ⟨nl, els, hr, hlen⟩ := hrow ρ a w g hi
    have hp := val_rep hi hx
    simp only [SV.enc, SC.enc] at hp
    have hxe := hd_eq hp
    have hye := val_int hi hy hyt
    cases hr with
    | nil => simp only [List.length_nil] at hlen; omega
    | zero => simp only [List.length_nil] at hlen; omega
    | full _ _ _ _ bb base n cap cs f hf =>
      refine ⟨rfl, .pointer (some ⟨bb, base + (i.get ρ).int.toNat * szOf X.P e, none⟩), fun w' _ => ?_, fun hi' hr' => ?_⟩
      · have hd : g.hdr (r, []) = .slice (some ⟨bb, base, none⟩) n cap := hf.hd
        have := hf.len
        simp only [execOp, hxe.trans hd, hye, Sem.run_bind, run_indexAt he (by omega : 0 < szOf X.P e) ⟨bb, base, none⟩ n cap _ h0 (by omega), addr_add, Sem.run_pure, Result.andThen_ok]
      · refine ⟨bb, base, .inl ⟨_, _, hf.hd⟩, ?_⟩
        have : At.nat (ρ ++ [V.u]) i = (i.get ρ).int.toNat := by
          rw [nat_app (by rw [hi.len]; exact At.ty_lt (ty_ok hyt))]; rfl
        rw [this]; simp
theorem idx_ro {i : At} (hN : d < X.N) {c : SC} {e e' : TypeId} {b : Ty} {v : At} (hx : st.val x = .ok (.c c)) (hne : ∀ r, c ≠ .h r) (hl : st.listVal c = .ok v) (hvt : st.ty v = .ok (.sl e' b)) (hy : st.val y = .ok (.c (.v i))) (hyt : st.ty i = .ok (.int .i64)) (he : elemOf X.P t = some e) (hn : b.n = szOf X.P e) (hpos : 0 < b.n) :
    QStep X D Γ st ⟨some d, .indexAddr t x y, ty, ps, af, gd⟩ ⟨[(.get v i, b)], (st.bind b).put d (.ra (regOf c) (cellsOf (regOf c) st.nx [] b))⟩ :=
  q_bind rfl hN fun ρ a w g v' hi hv' => by
    have hp := val_rep hi hx
    have hro := list_ro hi hp hl hvt hne
    have hvg := V.list_of (ty_get hi hvt)
    generalize (v.get ρ).as (.sl e' b) = xs at hro hvg
    simp only [Ex.den1, Ex.den, hvg, Option.bind_eq_some_iff, Option.some.injEq] at hv'
    obtain ⟨z, hz, rfl⟩ := hv'
    obtain ⟨h0, h1, h2⟩ := gget_ok hz
    have hye := val_int hi hy hyt
    generalize hxe : a.eval x = u at hro
    generalize hels : List.map (enc (regOf c) b) xs = els at hro
    cases hro with
    | ro0 =>
      have : xs = [] := List.map_eq_nil_iff.1 hels
      subst this
      simp at h2
    | ro _ _ bb off n cap s f hn' hc hm hS hs hsz hcell hrep =>
      have hg : els[(i.get ρ).int.toNat]? = some (enc (regOf c) b z) := by rw [← hels, List.getElem?_map, h2]; rfl
      have hse : s = szOf X.P e := by rw [← hn, ← hsz _ _ hg, enc_length]
      subst hse
      rw [← hels, List.length_map] at hn'
      refine ⟨rfl, .pointer (some ⟨bb, off + (i.get ρ).int.toNat * szOf X.P e, none⟩), fun w' _ => ?_, fun hi' hr' => ?_⟩
      · simp only [execOp, hxe, hye, Sem.run_bind, run_indexAt he hs ⟨bb, off, none⟩ n cap _ h0 (by omega), addr_add, Sem.run_pure, Result.andThen_ok]
      · have hcells : encL (ρ ++ [⟨b, z⟩]) (cellsOf (regOf c) st.nx [] b) = enc (regOf c) b z := cellsOf_enc _ _ _ b [] z (by
          have : (st.ref).get (ρ ++ [⟨b, z⟩]) = ⟨b, z⟩ := ref_get hi.len
          exact this)
        refine ⟨bb, off + (i.get ρ).int.toNat * szOf X.P e, f (i.get ρ).int.toNat, hS, rfl, fun k q hq => ?_⟩
        rw [hcells] at hq
        rw [Nat.add_assoc]
        exact ⟨hcell _ _ k q hg hq, hrep _ _ k q hg hq⟩
theorem indexAddr_ok (hN : d < X.N) (h : stepIndexAddr X.P st d t x y = .ok s) : QStep X D Γ st ⟨some d, .indexAddr t x y, ty, ps, af, gd⟩ s := by
  unfold stepIndexAddr at h
  obtain ⟨⟨k, i⟩, hy, h⟩ := ok_bind h
  obtain ⟨hy1, hy2⟩ := intOf_ok hy
  simp only at h
  split at h
  · cases h
  · rename_i hk
    have hk : k = .i64 := Decidable.of_not_not hk
    subst hk
    obtain ⟨vx, hx, h⟩ := ok_bind h
    split at h
    · rename_i r
      split at h
      · rename_i e b v nl inner hr
        split at h
        · rename_i hc
          simp only [Except.ok.injEq] at h
          subst h
          exact idx_own (k0 := .i64) hN hx hy1 hy2 hc.1 hc.2.1 hc.2.2.1 hc.2.2.2 fun ρ a w g hi => ⟨nl, _, row_of hi hr, by simp⟩
        · cases h
      · rename_i e b v nl i' k' hr
        split at h
        · rename_i hc
          simp only [Except.ok.injEq] at h
          subst h
          refine idx_own (k0 := .i64) hN hx hy1 hy2 hc.1 hc.2.1 hc.2.2.1 hc.2.2.2 fun ρ a w g hi => ⟨nl, _, hi.inv.row (r, []) (.row false nl e (((v.get ρ).as (.sl e b)).mapIdx fun i y => encE r i 0 b y)) (by simp only [hr, RK.rows]), by simp⟩
        · cases h
      · cases h
    · rename_i c hne
      obtain ⟨v, hl, h⟩ := ok_bind h
      obtain ⟨tv, hvt, h⟩ := ok_bind h
      split at h
      · rename_i e' b
        split at h
        · rename_i e he
          split at h
          · cases h
          · rename_i hc
            have hc := Decidable.of_not_not hc
            simp only [Except.ok.injEq] at h
            subst h
            exact idx_ro hN hx (fun r hr => hne r hr) hl hvt hy1 hy2 he hc.1 hc.2
        · cases h
      · cases h
    · cases h
end
end Go.Pu
/-
  Own work. Lending what is owned; slice expressions; loads; fields.
-/
namespace Go.Pu
open Go Go.RowKit
set_option linter.unusedVariables false

section
variable {P : Program} {w : World} {g : G}
theorem ro_conv {rg : Rg} {els els' : List (List C)} {u : Value} (h : CRep w g (.ro rg els) u) (hl : els'.length = els.length)
    (hc : ∀ (i : Nat) (cs cs' : List C), els[i]? = some cs → els'[i]? = some cs' → cs'.length = cs.length ∧ ∀ (k : Nat) (x x' : C) (v : Value), cs[k]? = some x → cs'[k]? = some x' → CRep w g x v → CRep w g x' v) : CRep w g (.ro rg els') u := by
  cases h with
  | ro0 _ A cap =>
    have : els' = [] := List.eq_nil_of_length_eq_zero hl
    subst this; exact .ro0 _ _ _
  | ro _ _ b off n cap s f hn hcap hm hS hs hsz hcell hrep =>
    have get : ∀ (i : Nat) (cs' : List C), els'[i]? = some cs' → ∃ cs, els[i]? = some cs := fun i cs' h => by
      have := (List.getElem?_eq_some_iff.1 h).1
      exact ⟨_, List.getElem?_eq_getElem (by omega)⟩
    have cell : ∀ (i : Nat) (cs' : List C) (k : Nat) (x' : C), els'[i]? = some cs' → cs'[k]? = some x' → ∃ cs x, els[i]? = some cs ∧ cs[k]? = some x ∧ ∀ v, CRep w g x v → CRep w g x' v := fun i cs' k x' h1 h2 => by
      obtain ⟨cs, hcs⟩ := get i cs' h1
      obtain ⟨h3, h4⟩ := hc i cs cs' hcs h1
      have h5 := (List.getElem?_eq_some_iff.1 h2).1
      have h6 : cs[k]? = some (cs[k]'(by omega)) := List.getElem?_eq_getElem (by omega)
      exact ⟨cs, _, hcs, h6, fun v hv => h4 k _ x' v h6 h2 hv⟩
    refine .ro rg els' b off n cap s f (by omega) hcap hm hS hs (fun i cs' h => ?_) (fun i cs' k x' h1 h2 => ?_) (fun i cs' k x' h1 h2 => ?_)
    · obtain ⟨cs, hcs⟩ := get i cs' h
      rw [(hc i cs cs' hcs h).1]; exact hsz i cs hcs
    · obtain ⟨cs, x, h3, h4, _⟩ := cell i cs' k x' h1 h2
      exact hcell i cs k x h3 h4
    · obtain ⟨cs, x, h3, h4, h5⟩ := cell i cs' k x' h1 h2
      exact h5 _ (hrep i cs k x h3 h4)
theorem row_ro {r : Nat} {p : List (Nat × Nat)} {nl : Bool} {e : TypeId} {els : List (List C)} (h : RowRep P w g (r, p) (.row false nl e els)) : CRep w g (.ro (some r) els) (g.hdr (r, p)) := by
  cases h with
  | nil _ _ hd => rw [hd]; exact .ro0 _ _ _
  | zero _ A hd => rw [hd]; exact .ro0 _ _ _
  | full _ _ _ _ b base n cap cs f hf =>
    rw [hf.hd]
    refine .ro (some r) els b base n cap (szOf P e) f hf.len hf.hcap hf.hmax (.inr ⟨p, hf.own⟩) hf.pos hf.size (fun i c k x h1 h2 => ?_) hf.rep
    rw [cell_of_row w b _ cs e (0, 0) hf.heap]; exact hf.cell i c k x h1 h2
theorem subRow_lt : ∀ (t : Ty) (k : Nat) (x : t.den) (j : Nat) (row : Row), subRow k t x j = some row → k ≤ j ∧ j < k + t.n
  | .pr a b, k, x, j, row, h => by
    simp only [subRow] at h
    cases hb : Nat.blt j (k + a.n) with
    | true =>
      rw [hb] at h
      have := subRow_lt a k x.1 j row h
      simp only [Ty.n]; omega
    | false =>
      rw [hb] at h
      have := subRow_lt b (k + a.n) x.2 j row h
      simp only [Ty.n]; omega
  | .sl e a, k, xs, j, row, h => by
    simp only [subRow] at h
    cases hb : Nat.beq j k with
    | true => have := Nat.eq_of_beq_eq_true hb; simp only [Ty.n]; omega
    | false => rw [hb] at h; cases h
  | .int _, _, _, _, _, h => by simp [subRow] at h
  | .bool, _, _, _, _, h => by simp [subRow] at h
  | .unit, _, _, _, _, h => by simp [subRow] at h
  | .mp, _, _, _, _, h => by simp [subRow] at h
theorem lend_cell {r i : Nat} : ∀ (t : Ty) (k0 : Nat) (x : t.den), t.flat1 = true → (∀ j row, subRow k0 t x j = some row → RowRep P w g (r, [(i, j)]) row) →
    ∀ (m : Nat) (c c' : C) (u : Value), (encE r i k0 t x)[m]? = some c → (enc (some r) t x)[m]? = some c' → CRep w g c u → CRep w g c' u
  | .int k, k0, x, _, _, m, c, c', u, h1, h2, h => by simp only [encE, enc] at h1 h2; rw [h1] at h2; cases h2; exact h
  | .bool, k0, x, _, _, m, c, c', u, h1, h2, h => by simp only [encE, enc] at h1 h2; rw [h1] at h2; cases h2; exact h
  | .unit, k0, x, _, _, m, c, c', u, h1, h2, h => by simp [encE] at h1
  | .pr a b, k0, x, hf, hr, m, c, c', u, h1, h2, h => by
    simp only [Ty.flat1, Bool.and_eq_true] at hf
    simp only [encE, enc] at h1 h2
    have la := encE_length r i k0 a x.1
    have la' := enc_length (some r) a x.1
    by_cases hm : m < a.n
    · rw [List.getElem?_append_left (by omega)] at h1 h2
      refine lend_cell a k0 x.1 hf.1 (fun j row hj => hr j row ?_) m c c' u h1 h2 h
      simp only [subRow]
      have := subRow_lt a k0 x.1 j row hj
      have hb : Nat.blt j (k0 + a.n) = true := by simp; omega
      rw [hb]; exact hj
    · rw [List.getElem?_append_right (by omega)] at h1 h2
      rw [la] at h1
      rw [la'] at h2
      refine lend_cell b (k0 + a.n) x.2 hf.2 (fun j row hj => hr j row ?_) (m - a.n) c c' u h1 h2 h
      simp only [subRow]
      have := subRow_lt b (k0 + a.n) x.2 j row hj
      have hb : Nat.blt j (k0 + a.n) = false := by
        cases hh : Nat.blt j (k0 + a.n) with
        | false => rfl
        | true => simp at hh; omega
      rw [hb]; exact hj
  | .sl e a, k0, xs, hf, hr, m, c, c', u, h1, h2, h => by
    simp only [Ty.flat1] at hf
    have hm : m = 0 := by
      have := (List.getElem?_eq_some_iff.1 h1).1
      simp [encE] at this; exact this
    subst hm
    simp only [encE, List.getElem?_cons_zero, Option.some.injEq] at h1
    simp only [enc, List.getElem?_cons_zero, Option.some.injEq] at h2
    subst h1 h2
    have hrow := hr k0 (.row false false e (List.map (enc none a) xs)) (by simp [subRow])
    have := row_ro hrow
    rw [hd_eq h]
    have e1 : (List.map (enc none a) xs) = List.map (enc (some r) a) xs := List.map_congr_left fun y _ => enc_flat none (some r) a y hf
    rw [← e1]; exact this
  | .mp, _, _, hf, _, _, _, _, _, _, _, _ => by simp [Ty.flat1] at hf
end
section
variable {X : Ctx} {D : Nat → Prop} {Γ : List FE} {st : St} {ρ : Env} {a : Act} {w : World} {g : G}
theorem sub_of (hi : TInv X D st ρ a w g) {r : Nat} {e : TypeId} {b : Ty} {v : At} {nl : Bool} (hr : st.rk r = .list e b v nl none) {i : Nat} {y : b.den} (hy : ((v.get ρ).as (.sl e b))[i]? = some y) {j : Nat} {row : Row} (hj : subRow 0 b y j = some row) :
    RowRep X.P w g (r, [(i, j)]) row := hi.inv.row (r, [(i, j)]) row (by
  have hy' : ((v.get ρ).as (.sl e b) : List b.den)[i]? = some y := hy
  simp only [hr, RK.rows]
  rw [hy']; exact hj)
/-- An owned list, lent. -/
theorem lend (hi : TInv X D st ρ a w g) {r : Nat} {e : TypeId} {b : Ty} {v : At} {nl : Bool} (hr : st.rk r = .list e b v nl none) (hf : b.flat1 = true) :
    CRep w g (.ro (some r) (List.map (enc (some r) b) ((v.get ρ).as (.sl e b)))) (g.hdr (r, [])) := by
  refine ro_conv (row_ro (row_of hi hr)) (by simp) fun i cs cs' h1 h2 => ?_
  rw [List.getElem?_mapIdx, Option.map_eq_some_iff] at h1
  obtain ⟨y, hy, rfl⟩ := h1
  rw [List.getElem?_map, hy] at h2
  cases h2
  refine ⟨by rw [enc_length]; simp only [encIn, encE_length], fun k c c' u q1 q2 hc => ?_⟩
  exact lend_cell b 0 y hf (fun j row hj => sub_of hi hr hy hj) k c c' u q1 q2 hc

/-! ### Slice expressions -/
theorem optAtom_ok {o : Option Operand} {x : Option At} (h : optAtom st o = .ok x) : (o = none ∧ x = none) ∨ ∃ o' x' k, o = some o' ∧ x = some x' ∧ st.val o' = .ok (.c (.v x')) ∧ st.ty x' = .ok (.int k) := by
  unfold optAtom at h
  cases o with
  | none => simp only [Except.ok.injEq] at h; exact .inl ⟨rfl, h.symm⟩
  | some o =>
    obtain ⟨⟨k, y⟩, hy, h⟩ := ok_bind h
    simp only [Except.ok.injEq] at h
    obtain ⟨h1, h2⟩ := intOf_ok hy
    exact .inr ⟨o, y, k, rfl, h.symm, h1, h2⟩
def bndN (ρ : Env) (z : Option At) (dflt : Nat) : Nat := match z with | some x => (x.get ρ).int.toNat | none => dflt
def Bnd (v : Option Value) (dflt : Nat) (L : Nat) : Prop := (v = none ∧ L = dflt) ∨ ∃ k l, v = some (.int k l) ∧ 0 ≤ l ∧ L = l.toNat
theorem run_slice {P : Program} {w : World} {t e : TypeId} {A : Option Addr} {n cap L H : Nat} (he : elemOf P t = some e) (hs : 0 < szOf P e) (hnc : n ≤ cap) {lo hi : Option Value} (hlo : Bnd lo 0 L) (hhi : Bnd hi n H) (h1 : L ≤ H) (h2 : H ≤ cap) :
    (Instr.sliceAt t (.slice A n cap) lo hi none).run P w = .ok (.slice (if cap = L then A else A.map (·.add (L * szOf P e))) (H - L) (cap - L)) w := by
  have hu := elem_under he
  have b1 : ∀ (k : IntKind) (l : Int) (y : Nat) (c : BoundsCode), 0 ≤ l → l.toNat ≤ y → (Instr.sliceBound (.int k l) y c).run P w = .ok l.toNat w := fun k l y c h0 h1 => by
    have : l ≤ (y : Int) := by omega
    simp [Instr.sliceBound, asIntOf, h0, this]
  have hb : (Instr.sliceBounds true n cap lo hi none).run P w = .ok (L, H, cap) w := by
    rcases hlo with ⟨rfl, rfl⟩ | ⟨k, l, rfl, hl0, rfl⟩ <;> rcases hhi with ⟨rfl, rfl⟩ | ⟨k', h, rfl, hh0, rfl⟩
    · simp [Instr.sliceBounds]
    · simp [Instr.sliceBounds, b1 k' h cap _ hh0 h2]
    · simp [Instr.sliceBounds, b1 k l H _ hl0 h1]
    · simp [Instr.sliceBounds, b1 k' h cap _ hh0 h2, b1 k l h.toNat _ hl0 h1]
  simp [Instr.sliceAt, Instr.slice, run_underlying hu, hb, run_sizeOf hs]
theorem ro_slice {rg : Rg} {els : List (List C)} {A : Option Addr} {n cap L H sz : Nat} (h : CRep w g (.ro rg els) (.slice A n cap)) (hsz : ∀ (i : Nat) (cs : List C), els[i]? = some cs → cs.length = sz) (h1 : L ≤ H) (h2 : H ≤ n) :
    CRep w g (.ro rg ((els.take H).drop L)) (.slice (if cap = L then A else A.map (·.add (L * sz))) (H - L) (cap - L)) := by
  have hlen : n = els.length := by have := ro_len h; cases this; assumption
  by_cases h0 : H - L = 0
  · have : (els.take H).drop L = [] := List.drop_eq_nil_of_le (by simp; omega)
    rw [this, h0]; exact .ro0 _ _ _
  · generalize hu : Value.slice A n cap = u at h
    cases h with
    | ro0 => cases hu; omega
    | ro _ _ b off n' cap' s f hn hc hm hS hs hsz' hcell hrep =>
      cases hu
      have hne : els[0]? = some (els[0]'(by omega)) := List.getElem?_eq_getElem (by omega)
      have hss : s = sz := (hsz' 0 _ hne).symm.trans (hsz 0 _ hne)
      subst hss
      rw [if_neg (by omega)]
      simp only [Option.map_some, addr_add]
      have get : ∀ (i : Nat) (cs : List C), ((els.take H).drop L)[i]? = some cs → els[L + i]? = some cs := fun i cs hi => by
        rw [List.getElem?_drop, List.getElem?_take] at hi
        split at hi
        · exact hi
        · cases hi
      refine .ro rg _ b (off + L * s) (H - L) (cap - L) s (fun i k => f (L + i) k) (by simp; omega) (by omega) (by omega) hS hs (fun i cs hi => hsz' _ cs (get i cs hi)) (fun i cs k x q1 q2 => ?_) (fun i cs k x q1 q2 => hrep _ cs k x (get i cs q1) q2)
      have := hcell _ cs k x (get i cs q1) q2
      rw [Nat.add_mul] at this
      rw [← this]
      congr 2
      omega
theorem gslice_ok {α : Type} {xs ys : List α} {lo hi : Int} (h : gslice xs lo hi = some ys) : 0 ≤ lo ∧ lo ≤ hi ∧ hi ≤ (xs.length : Int) ∧ ys = (xs.take hi.toNat).drop lo.toNat := by
  unfold gslice at h
  split at h
  · rename_i hc
    simp only [Option.some.injEq] at h
    exact ⟨hc.1, hc.2.1, hc.2.2, h.symm⟩
  · cases h
variable {d : Nat} {x y : Operand} {t t' ty : TypeId} {ps : String} {af : Array Edge} {gd : Option (Nat × Bool)} {s : Step}
theorem bnd_of (hi : TInv X D st ρ a w g) {o : Option Operand} {z : Option At} (h : optAtom st o = .ok z) (dflt : Nat) (h0 : ∀ x, z = some x → 0 ≤ (x.get ρ).int) : Bnd (o.map a.eval) dflt (bndN ρ z dflt) := by
  rcases optAtom_ok h with ⟨rfl, rfl⟩ | ⟨o', x', k, rfl, rfl, h1, h2⟩
  · exact .inl ⟨rfl, rfl⟩
  · refine .inr ⟨k, (x'.get ρ).int, ?_, h0 x' rfl, rfl⟩
    simp only [Option.map_some, val_int hi h1 h2]
theorem ro_cap {rg : Rg} {els : List (List C)} {A : Option Addr} {n cap : Nat} (h : CRep w g (.ro rg els) (.slice A n cap)) : n ≤ cap := by
  cases h with
  | ro0 => omega
  | ro _ _ b off n' cap' s f hn hc => exact hc
theorem list_cap (hi : TInv X D st ρ a w g) {c : SC} {v : At} {e : TypeId} {b : Ty} {u : Value} (hc : CRep w g (c.enc ρ) u) (hl : st.listVal c = .ok v) (ht : st.ty v = .ok (.sl e b)) :
    ∃ A cap, u = .slice A ((v.get ρ).as (.sl e b)).length cap ∧ ((v.get ρ).as (.sl e b)).length ≤ cap := by
  by_cases hh : ∃ r, c = .h r
  · obtain ⟨r, rfl⟩ := hh
    obtain ⟨e', b', nl, inner, hr, hv⟩ := listVal_h hl
    have hee := ty_inj ht (ok_ty hv)
    cases hee
    simp only [SC.enc] at hc
    rw [hd_eq hc]
    have := row_ro (row_of hi hr)
    have hlen := ro_len this
    generalize g.hdr (r, []) = u' at this hlen
    cases hlen with
    | mk A n cap hn =>
      simp only [List.length_mapIdx] at hn
      subst hn
      exact ⟨A, cap, rfl, ro_cap this⟩
  · have := list_ro hi hc hl ht (fun r hr => hh ⟨r, hr⟩)
    have hlen := ro_len this
    cases hlen with
    | mk A n cap hn =>
      simp only [List.length_map] at hn
      subst hn
      exact ⟨A, cap, rfl, ro_cap this⟩
theorem enc_rows (rg : Rg) (b : Ty) (xs : List b.den) : ∀ (i : Nat) (cs : List C), (List.map (enc rg b) xs)[i]? = some cs → cs.length = b.n := fun i cs h => by
  rw [List.getElem?_map, Option.map_eq_some_iff] at h
  obtain ⟨y, _, rfl⟩ := h
  exact enc_length rg b y
theorem map_slice {α β : Type} (f : α → β) (xs : List α) (L H : Nat) : ((List.map f xs).take H).drop L = List.map f ((xs.take H).drop L) := by simp [List.map_take, List.map_drop]
theorem slice_ok {lo hi : Option Operand} (hN : d < X.N) (h : stepSlice X.P st d t x lo hi = .ok s) : QStep X D Γ st ⟨some d, .slice t x lo hi none, ty, ps, af, gd⟩ s := by
  unfold stepSlice at h
  obtain ⟨lo', hlo, h⟩ := ok_bind h
  obtain ⟨hi', hhi, h⟩ := ok_bind h
  obtain ⟨vx, hx, h⟩ := ok_bind h
  split at h
  · rename_i c
    obtain ⟨v, hl, h⟩ := ok_bind h
    obtain ⟨tv, hvt, h⟩ := ok_bind h
    split at h
    · rename_i e' b e he
      split at h
      · cases h
      · rename_i hc
        have hc := Decidable.of_not_not hc
        have hs0 : 0 < szOf X.P e := by omega
        have key : ∀ (sv : SC) (hsv : ∀ ρ w g (zs : List b.den) (A : Option Addr) (n cap L H : Nat) (a : Act), TInv X D st ρ a w g → n = ((v.get ρ).as (.sl e' b)).length → n ≤ cap → L ≤ H → H ≤ n → L = bndN ρ lo' 0 → zs = (((v.get ρ).as (.sl e' b) : List b.den).take H).drop L → CRep w g (c.enc ρ) (.slice A n cap) →
              st.ref.get (ρ ++ [⟨.sl e' b, zs⟩]) = ⟨.sl e' b, zs⟩ → CRep w g (sv.enc (ρ ++ [⟨.sl e' b, zs⟩])) (.slice (if cap = L then A else A.map (·.add (L * szOf X.P e))) (H - L) (cap - L))),
            QStep X D Γ st ⟨some d, .slice t x lo hi none, ty, ps, af, gd⟩ ⟨[(.slice v lo' hi', .sl e' b)], (st.bind (.sl e' b)).put d (.c sv)⟩ := fun sv hsv =>
          q_bind rfl hN fun ρ a w g v' hinv hv' => by
            have hvg := V.list_of (ty_get hinv hvt)
            have hp := val_rep hinv hx
            obtain ⟨A, cap, hxe, hcap⟩ := list_cap hinv hp hl hvt
            have hpc : CRep w g (c.enc ρ) (a.eval x) := hp
            rw [hxe] at hpc
            simp only [Ex.den1, Ex.den] at hv'
            rw [hvg] at hv'
            simp only [Option.bind_eq_some_iff, Option.some.injEq] at hv'
            obtain ⟨zs, hzs, rfl⟩ := hv'
            obtain ⟨q0, q1, q2, q3⟩ := gslice_ok hzs
            refine ⟨rfl, _, fun w' _ => ?_, fun _ hr => hsv ρ w g zs A _ cap (bndN ρ lo' 0) (bndN ρ hi' ((v.get ρ).as (.sl e' b)).length) a hinv rfl hcap ?_ ?_ rfl ?_ hpc hr⟩
            · have b1 := bnd_of hinv hlo 0 (fun x hx => by subst hx; exact q0)
              have b2 := bnd_of hinv hhi ((v.get ρ).as (.sl e' b)).length (fun x hx => by subst hx; simp only at q1; omega)
              simp only [execOp, hxe, Option.map_none]
              have hrun := run_slice (P := X.P) (w := w') (A := A) he hs0 hcap b1 b2 (by cases lo' <;> cases hi' <;> simp only [bndN] at q0 q1 q2 ⊢ <;> omega) (by cases hi' <;> simp only [bndN] at q1 q2 ⊢ <;> omega)
              simp only [Sem.run_bind, hrun, Result.andThen_ok, Sem.run_pure]
            · cases lo' <;> cases hi' <;> simp only [bndN] at q0 q1 q2 ⊢ <;> omega
            · cases hi' <;> simp only [bndN] at q1 q2 ⊢ <;> omega
            · rw [q3]
              cases lo' <;> cases hi' <;> simp [bndN]
        cases c with
        | s rg x0 =>
          simp only [Except.ok.injEq] at h
          subst h
          refine key _ fun ρ w g zs A n cap L H a hinv hn hcap hLH hHn hL hz hcr hr => ?_
          have hro := list_ro hinv hcr hl hvt (fun r e0 => by cases e0)
          have := ro_slice hro (sz := b.n) (enc_rows _ b _) hLH (by omega)
          rw [map_slice, ← hz] at this
          simp only [SC.enc, hr, V.els]
          rw [← hc.1]; exact this
        | h r =>
          simp only at h
          split at h
          · rename_i e2 a2 v2 nl2 hrk
            split at h
            · rename_i hc2
              obtain ⟨hf1, rfl, rfl⟩ := hc2
              simp only [Except.ok.injEq] at h
              subst h
              refine key _ fun ρ w g zs A n cap L H a hinv hn hcap hLH hHn hL hz hcr hr => ?_
              obtain ⟨e3, b3, nl3, inner3, hrk3, hv3⟩ := listVal_h hl
              rw [hrk] at hrk3
              cases hrk3
              have hro := lend hinv hrk hf1
              simp only [SC.enc] at hcr
              have hdr := hd_eq hcr
              rw [← hdr] at hro
              have := ro_slice hro (sz := a2.n) (enc_rows _ a2 _) hLH (by omega)
              rw [map_slice, ← hz] at this
              simp only [SC.enc, hr, V.els, V.esz, V.len]
              refine .both _ _ _ (.sub _ _ _ _ _ ?_) (by rw [← hc.1]; exact this)
              have hlo' : loOf (ρ ++ [⟨.sl e2 a2, zs⟩]) lo' = L := by
                rw [hL]
                cases lo' with
                | none => rfl
                | some x1 =>
                  rcases optAtom_ok hlo with ⟨_, e0⟩ | ⟨_, _, _, _, e0, _, h2⟩
                  · cases e0
                  · cases e0
                    exact nat_app (by rw [hinv.len]; exact At.ty_lt (ty_ok h2))
              have hzl : zs.length = H - L := by rw [hz]; simp; omega
              rw [hlo', ← hdr, hzl, ← hc.1]; rfl
            · cases h
          · cases h
        | hn r i k x0 =>
          simp only [Except.ok.injEq] at h
          subst h
          refine key _ fun ρ w g zs A n cap L H a hinv hn hcap hLH hHn hL hz hcr hr => ?_
          have hro := list_ro hinv hcr hl hvt (fun r e0 => by cases e0)
          have := ro_slice hro (sz := b.n) (enc_rows _ b _) hLH (by omega)
          rw [map_slice, ← hz] at this
          simp only [SC.enc, hr, V.els]
          rw [← hc.1]; exact this
        | _ => cases h
    · cases h
  · cases h
end
end Go.Pu
/-
  Own work. Loads, fields, look-ups in maps.
-/
namespace Go.Pu
open Go Go.RowKit
set_option linter.unusedVariables false

theorem cellsN_get {r : Nat} {i : At} {n : Nat} {ρ : Env} : ∀ (t : Ty) (k : Nat) (p : List Bool) (x : t.den) (m : Nat) (q : C), Ref.get ρ ⟨n, p⟩ = ⟨t, x⟩ → (encL ρ (cellsOfN r i n k p t))[m]? = some q →
    ∃ c c', (encE r (i.nat ρ) k t x)[m]? = some c ∧ (enc (some r) t x)[m]? = some c' ∧ (q = c ∨ q = .both c c')
  | .int kd, k, p, x, m, q, h, hq => by
    simp only [cellsOfN, encL, SC.enc, At.get, h, V.c] at hq
    exact ⟨q, q, hq, hq, .inl rfl⟩
  | .bool, k, p, x, m, q, h, hq => by
    simp only [cellsOfN, encL, SC.enc, At.get, h, V.c] at hq
    exact ⟨q, q, hq, hq, .inl rfl⟩
  | .unit, k, p, x, m, q, h, hq => by simp [cellsOfN, encL] at hq
  | .pr a b, k, p, x, m, q, h, hq => by
    simp only [cellsOfN, encL_app2] at hq
    have ha : Ref.get ρ ⟨n, p ++ [false]⟩ = ⟨a, x.1⟩ := by simp only [Ref.get, proj_app] at h ⊢; rw [h]; rfl
    have hb : Ref.get ρ ⟨n, p ++ [true]⟩ = ⟨b, x.2⟩ := by simp only [Ref.get, proj_app] at h ⊢; rw [h]; rfl
    have la := encE_length r (i.nat ρ) k a x.1
    have la' := enc_length (some r) a x.1
    have ln : ∀ (t : Ty) (k : Nat) (p : List Bool), (encL ρ (cellsOfN r i n k p t)).length = t.n := by
      intro t
      induction t with
      | pr a b iha ihb => intro k p; simp only [cellsOfN, encL_app2, List.length_append, iha, ihb, Ty.n]
      | _ => intro k p; simp [cellsOfN, encL, Ty.n]
    simp only [encE, enc]
    by_cases hm : m < a.n
    · rw [List.getElem?_append_left (by rw [ln]; exact hm)] at hq
      rw [List.getElem?_append_left (by omega), List.getElem?_append_left (by omega)]
      exact cellsN_get a k (p ++ [false]) x.1 m q ha hq
    · rw [List.getElem?_append_right (by rw [ln]; omega), ln] at hq
      rw [List.getElem?_append_right (by omega), List.getElem?_append_right (by omega), la, la']
      exact cellsN_get b (k + a.n) (p ++ [true]) x.2 (m - a.n) q hb hq
  | .sl e a, k, p, x, m, q, h, hq => by
    have hm : m = 0 := by
      have := (List.getElem?_eq_some_iff.1 hq).1
      simp [cellsOfN, encL] at this; exact this
    subst hm
    simp only [cellsOfN, encL, SC.enc, At.get, h, V.els, List.getElem?_cons_zero, Option.some.injEq] at hq
    exact ⟨_, _, rfl, rfl, .inr hq.symm⟩
  | .mp, k, p, x, m, q, h, hq => by
    simp only [cellsOfN, encL, SC.enc] at hq
    exact ⟨q, q, hq, hq, .inl rfl⟩

section
variable {X : Ctx} {D : Nat → Prop} {Γ : List FE} {st : St} {ρ : Env} {a : Act} {w : World} {g : G}
theorem clean_own (hi : TInv X D st ρ a w g) {r : Nat} {p : List (Nat × Nat)} {b : Nat} (hb : g.own b = some (r, p)) (h1 : p = [] → st.dirty.contains (r, false) = false) (h2 : p ≠ [] → st.dirty.contains (r, true) = false) : ¬ D b := fun hd => by
  obtain ⟨⟨r', f⟩, q, hm, ho, hf⟩ := hi.dirt.1 b hd
  rw [hb] at ho
  simp only [Option.some.injEq, Prod.mk.injEq] at ho hf
  obtain ⟨rfl, rfl⟩ := ho
  by_cases hp : p = []
  · have hff : f = false := by
      cases f with
      | false => rfl
      | true => exact absurd hp (hf.1 rfl)
    subst hff
    have := h1 hp
    have hc : st.dirty.contains (r, false) = true := by simpa using hm
    rw [this] at hc; cases hc
  · have hff : f = true := hf.2 hp
    subst hff
    have := h2 hp
    have hc : st.dirty.contains (r, true) = true := by simpa using hm
    rw [this] at hc; cases hc
theorem clean_S (hi : TInv X D st ρ a w g) {b : Nat} (hb : g.S b) : ¬ D b := fun hd => by
  obtain ⟨p, q, _, ho, _⟩ := hi.dirt.1 b hd
  exact (hi.inv.ok.own b _ ho).2.2 hb
variable {d : Nat} {x y : Operand} {t t' ty : TypeId} {ps : String} {af : Array Edge} {gd : Option (Nat × Bool)} {s : Step}
theorem rel_of_cls {o : Oper} {w w' : World} (hr : reads o.op = true) (h : Cls D o w w') : RelD D w w' := h hr
/-- A load of cells that are known. -/
theorem load_cells {P : Program} {ρ' : Env} {cells : List SC} {sv : SV} (h : loadCells' P t cells = .ok sv) {b o : Nat} {f : Nat → Value} (hD : ¬ D b) (hc : ∀ (k : Nat) (q : C), (encL ρ' cells)[k]? = some q → w.cell? ⟨b, o + k, none⟩ = some (f k) ∧ CRep w g q (f k)) {ρ : Operand → Value} (hx : ρ x = .pointer (some ⟨b, o, none⟩)) :
    ∃ v, (∀ w', Cls D ⟨some d, .load t x, ty, ps, af, gd⟩ w w' → (execOp ρ ⟨some d, .load t x, ty, ps, af, gd⟩).run P w' = .ok (.value v) w') ∧ PRep P w g (sv.enc ρ') v := by
  unfold loadCells' at h
  split at h
  · rename_i ha
    split at h
    · rename_i hlen
      simp only [Except.ok.injEq] at h
      subst h
      have hle : szOf P t ≤ cells.length := by have := hlen.1; simp at this; omega
      let vs := (List.range (szOf P t)).map f
      have hvl : vs.length = szOf P t := by simp [vs]
      have cell : ∀ (j : Nat) (v : Value), vs[j]? = some v → w.cell? ((⟨b, o, none⟩ : Addr).add j) = some v := fun j v hj => by
        obtain ⟨hj1, rfl⟩ := list_of_fun f j v hj
        rw [addr_add]
        exact (hc j _ (List.getElem?_eq_getElem (by rw [encL_map, List.length_map]; omega))).1
      refine ⟨.agg vs.toArray, fun w' hw' => ?_, vs.toArray, rfl, by rw [encL_map]; simp [vs]; omega, fun k q hq => ?_⟩
      · have hR := rel_of_cls rfl hw'
        have hr := run_load_agg (P := P) (w := w') ha hvl.symm hlen.2 (a := ⟨b, o, none⟩) (fun j v hj => hR.cell (by rw [addr_add]; exact hD) (cell j v hj))
        simp only [execOp, hx, Instr.loadAt, Instr.sureAddr, Sem.run_bind, Sem.run_pure, Result.andThen_ok, hr]
      · have hk : k < szOf P t := by
          have := (List.getElem?_eq_some_iff.1 hq).1
          rw [encL_map] at this; simp at this; omega
        have hq' : (encL ρ' cells)[k]? = some q := by
          rw [encL_map, List.map_take, List.getElem?_take, if_pos hk] at hq
          rw [encL_map]; exact hq
        exact ⟨f k, by simp [vs, hk], (hc k q hq').2⟩
    · cases h
  · rename_i ha
    split at h
    · rename_i c cs
      simp only [Except.ok.injEq] at h
      subst h
      obtain ⟨h1, h2⟩ := hc 0 (c.enc ρ') (by simp [encL])
      simp only [Nat.add_zero] at h1
      refine ⟨f 0, fun w' hw' => ?_, h2⟩
      have hR := rel_of_cls rfl hw'
      simp only [execOp, hx, Instr.loadAt, Instr.sureAddr, Sem.run_bind, Sem.run_pure, Result.andThen_ok, run_load_one ha (hR.cell (p := ⟨b, o, none⟩) hD h1)]
    · cases h
  · cases h
theorem drop_cells {ρ : Env} {cells : List SC} {k : Nat} {o : Nat} {f : Nat → Value} {b : Nat} (hc : ∀ (j : Nat) (q : C), (encL ρ cells)[j]? = some q → w.cell? ⟨b, o + j, none⟩ = some (f j) ∧ CRep w g q (f j)) :
    ∀ (j : Nat) (q : C), (encL ρ (cells.drop k))[j]? = some q → w.cell? ⟨b, (o + k) + j, none⟩ = some (f (k + j)) ∧ CRep w g q (f (k + j)) := fun j q hq => by
  rw [encL_map, List.map_drop, List.getElem?_drop] at hq
  rw [Nat.add_assoc]
  exact hc (k + j) q (by rw [encL_map]; exact hq)
theorem box_cells (hi : TInv X D st ρ a w g) {r : Nat} {e : TypeId} {cells : List SC} (hr : st.rk r = .box e cells) :
    ∃ (b base : Nat) (f : Nat → Value), g.hdr (r, []) = .pointer (some ⟨b, base, none⟩) ∧ g.own b = some (r, []) ∧ ∀ (j : Nat) (q : C), (encL ρ cells)[j]? = some q → w.cell? ⟨b, base + j, none⟩ = some (f j) ∧ CRep w g q (f j) := by
  have hrow : RowRep X.P w g (r, []) (.row true false e [encL ρ cells]) := hi.inv.row (r, []) _ (by simp only [hr, RK.rows])
  cases hrow with
  | full _ _ _ _ b base n cap cs f hf =>
    refine ⟨b, base, f 0, hf.hd, hf.own, fun j q hq => ⟨?_, hf.rep 0 _ j q rfl hq⟩⟩
    rw [cell_of_row w b _ cs e (0, 0) hf.heap]
    have := hf.cell 0 _ j q rfl hq
    simpa using this
theorem ad_box (hi : TInv X D st ρ a w g) {r : Nat} {e : TypeId} {k : Nat} {u : Value} (hp : PRep X.P w g (.ad (r, []) e 0 k) u) {b base : Nat} (hd : g.hdr (r, []) = .pointer (some ⟨b, base, none⟩)) : u = .pointer (some ⟨b, base + k, none⟩) := by
  obtain ⟨b', base', h1, h2⟩ := hp
  rw [hd] at h1
  rcases h1 with ⟨n, cap, h1⟩ | h1
  · cases h1
  · cases h1
    rw [h2]; simp
theorem load_ok (hN : d < X.N) (h : stepLoad X.P st d t x = .ok s) : QStep X D Γ st ⟨some d, .load t x, ty, ps, af, gd⟩ s := by
  unfold stepLoad at h
  obtain ⟨vx, hx, h⟩ := ok_bind h
  split at h
  · cases h
  · rename_i hcl0
    have hcl : st.clean vx = true := by simpa using hcl0
    clear hcl0
    split at h
    · rename_i r
      split at h
      · rename_i e cells hr
        obtain ⟨v, hv, h⟩ := ok_bind h
        simp only [Except.ok.injEq] at h
        subst h
        refine q_put rfl hN fun ρ a w g hi => ?_
        obtain ⟨b, base, f, hd, ho, hc⟩ := box_cells hi hr
        have hp := val_rep hi hx
        simp only [SV.enc, SC.enc] at hp
        simp only [St.clean, Bool.not_eq_true'] at hcl
        exact load_cells hv (clean_own hi ho (fun _ => hcl) (fun h => absurd rfl h)) hc ((hd_eq hp).trans hd)
      · cases h
    · rename_i rg cells
      obtain ⟨v, hv, h⟩ := ok_bind h
      simp only [Except.ok.injEq] at h
      subst h
      refine q_put rfl hN fun ρ a w g hi => ?_
      have hp := val_rep hi hx
      simp only [SV.enc, SC.enc] at hp
      generalize hxe : a.eval x = u at hp
      have hp : CRep w g (.rp rg (encL ρ cells)) u := hp
      cases hp with
      | rp _ _ b o f hS hcell hrep =>
        refine load_cells hv ?_ (fun k q hq => ⟨hcell k q hq, hrep k q hq⟩) hxe
        cases rg with
        | none => exact clean_S hi hS
        | some r =>
          simp only [St.clean, Bool.and_eq_true, Bool.not_eq_true'] at hcl
          rcases hS with hS | ⟨p, ho⟩
          · exact clean_S hi hS
          · exact clean_own hi ho (fun _ => hcl.1) (fun _ => hcl.2)
    · rename_i rg cells
      obtain ⟨v, hv, h⟩ := ok_bind h
      simp only [Except.ok.injEq] at h
      subst h
      refine q_put rfl hN fun ρ a w g hi => ?_
      obtain ⟨b, o, f, hS, hxe, hc⟩ := val_rep hi hx
      refine load_cells hv ?_ hc hxe
      cases rg with
      | none => exact clean_S hi hS
      | some r =>
        simp only [St.clean, Bool.and_eq_true, Bool.not_eq_true'] at hcl
        rcases hS with hS | ⟨p, ho⟩
        · exact clean_S hi hS
        · exact clean_own hi ho (fun _ => hcl.1) (fun _ => hcl.2)
    · rename_i r e i k
      simp only [St.clean, Bool.not_eq_true'] at hcl
      split at h
      · rename_i e' cells hr
        split at h
        · cases h
        · rename_i hc
          obtain ⟨rfl, rfl⟩ : e = e' ∧ i = .int .i64 0 := ⟨Decidable.of_not_not fun h => hc (.inl h), Decidable.of_not_not fun h => hc (.inr h)⟩
          obtain ⟨v, hv, h⟩ := ok_bind h
          simp only [Except.ok.injEq] at h
          subst h
          refine q_put rfl hN fun ρ a w g hi => ?_
          obtain ⟨b, base, f, hd, ho, hc⟩ := box_cells hi hr
          have hp := val_rep hi hx
          have hxe := ad_box hi (by simpa [SV.enc, At.nat, At.get, V.int] using hp) hd
          exact load_cells hv (clean_own hi ho (fun _ => hcl) (fun h => absurd rfl h)) (drop_cells hc) hxe
      · rename_i e' b v nl inner hr
        split at h
        · cases h
        · rename_i hc
          have hc1 : e = e' := Decidable.of_not_not fun h => hc (.inl h)
          subst hc1
          have hvt : v.ty st.ts = some (.sl e b) := Decidable.of_not_not fun h => hc (.inr (.inl h))
          have hbn : b.n = szOf X.P e := Decidable.of_not_not fun h => hc (.inr (.inr (.inl h)))
          have hin : inner = none → b.flat1 = true := fun h0 => by
            cases hf : b.flat1 with
            | true => rfl
            | false => exact absurd (.inr (.inr (.inr (.inl ⟨h0, hf⟩)))) hc
          have hil : i.lt st.ts.length = true := by
            cases hf : i.lt st.ts.length with
            | true => rfl
            | false => exact absurd (.inr (.inr (.inr (.inr (by rw [hf]; rfl))))) hc
          obtain ⟨u, hu, h⟩ := ok_bind h
          simp only [Except.ok.injEq] at h
          subst h
          refine q_bind rfl hN fun ρ a w g v' hi hv' => ?_
          have hvg := V.list_of (At.ty_get hi.typ hvt)
          have hrow := row_of hi hr
          generalize hxs : (v.get ρ).as (.sl e b) = xs at hrow hvg
          simp only [Ex.den1, Ex.den, hvg, Option.bind_eq_some_iff, Option.some.injEq] at hv'
          obtain ⟨z, hz, rfl⟩ := hv'
          obtain ⟨q0, q1, q2⟩ := gget_ok hz
          obtain ⟨b', base', hd1, hxe⟩ := val_rep hi hx
          generalize hels : (xs.mapIdx fun i y => encIn inner r i b y) = els at hrow
          have hget : els[(i.get ρ).int.toNat]? = some (encIn inner r (i.get ρ).int.toNat b z) := by rw [← hels, List.getElem?_mapIdx, q2]; rfl
          cases hrow with
          | nil => simp at hget
          | zero => simp at hget
          | full _ _ _ _ bb base n cap cs f hf =>
            have hbb : b' = bb ∧ base' = base := by
              have hd := hf.hd
              rw [hd] at hd1
              rcases hd1 with ⟨_, _, h1⟩ | h1 <;> simp [hdrOf] at h1
              exact ⟨h1.1.1.symm, h1.1.2.symm⟩
            obtain ⟨rfl, rfl⟩ := hbb
            have hval : Ref.get (ρ ++ [⟨b, z⟩]) ⟨st.nx, []⟩ = ⟨b, z⟩ := by
              have : (st.ref).get (ρ ++ [⟨b, z⟩]) = ⟨b, z⟩ := ref_get hi.len
              exact this
            have hin' : At.nat (ρ ++ [⟨b, z⟩]) i = (i.get ρ).int.toNat := nat_app (by rw [hi.len]; exact hil)
            have hcell : ∀ (m : Nat) (c : C), (encIn inner r (i.get ρ).int.toNat b z)[m]? = some c → w.cell? ⟨b', base' + ((i.get ρ).int.toNat * szOf X.P e + m), none⟩ = some (f (i.get ρ).int.toNat m) ∧ CRep w g c (f (i.get ρ).int.toNat m) := fun m c hm => by
              refine ⟨?_, hf.rep _ _ m c hget hm⟩
              rw [cell_of_row w b' _ cs e (0, 0) hf.heap]
              exact hf.cell _ _ m c hget hm
            have hall : ∀ (m : Nat) (q : C), (encL (ρ ++ [⟨b, z⟩]) (elemCells inner r i st.nx b))[m]? = some q →
                w.cell? ⟨b', (base' + (i.get ρ).int.toNat * szOf X.P e) + m, none⟩ = some (f (i.get ρ).int.toNat m) ∧ CRep w g q (f (i.get ρ).int.toNat m) := fun m q hq => by
              rw [Nat.add_assoc]
              cases inner with
              | some rg =>
                simp only [elemCells] at hq
                rw [cellsOf_enc rg _ _ b [] z hval] at hq
                exact hcell m q hq
              | none =>
                simp only [elemCells] at hq
                obtain ⟨c, c', h1, h2, h3⟩ := cellsN_get b 0 [] z m q hval hq
                rw [hin'] at h1
                obtain ⟨h4, h5⟩ := hcell m c h1
                refine ⟨h4, ?_⟩
                rcases h3 with rfl | rfl
                · exact h5
                · exact .both _ _ _ h5 (lend_cell b 0 z (hin rfl) (fun j row hj => sub_of hi hr (by rw [hxs]; exact q2) hj) m c c' _ h1 h2 h5)
            have hxe' : a.eval x = .pointer (some ⟨b', (base' + (i.get ρ).int.toNat * szOf X.P e) + k, none⟩) := by rw [hxe, Nat.add_assoc]; rfl
            obtain ⟨v, hv1, hv2⟩ := load_cells (D := D) (d := d) (ty := ty) (ps := ps) (af := af) (gd := gd) hu (clean_own hi hf.own (fun _ => hcl) (fun h => absurd rfl h)) (drop_cells (k := k) hall) hxe'
            exact ⟨rfl, v, hv1, fun _ _ => hv2⟩
      · cases h
    · cases h
theorem field_ok {fi : Nat} (hN : d < X.N) (h : stepField X.P st d t x fi = .ok s) : QStep X D Γ st ⟨some d, .field t x fi, ty, ps, af, gd⟩ s := by
  unfold stepField at h
  split at h
  · cases h
  · rename_i off sz hf
    obtain ⟨v, hx, h⟩ := ok_bind h
    split at h
    · rename_i cells
      split at h
      · rename_i fs hu
        split at h
        · rename_i f hfi
          obtain ⟨u, hl, h⟩ := ok_bind h
          simp only [Except.ok.injEq] at h
          subst h
          have hoff : off = f.offset := by
            unfold fldOf at hf
            rw [hu] at hf
            simp only [hfi, Option.some.injEq, Prod.mk.injEq] at hf
            exact hf.1.symm
          subst hoff
          refine q_put rfl hN fun ρ a w g hi => ?_
          obtain ⟨vs, h1, h2, h3⟩ := val_rep hi hx
          have hget : ∀ (k : Nat) (q : C), (encL ρ (cells.drop f.offset))[k]? = some q → ∃ u, vs[f.offset + k]? = some u ∧ CRep w g q u := fun k q hq => by
            rw [encL_map, List.map_drop, List.getElem?_drop] at hq
            exact h3 _ q (by rw [encL_map]; exact hq)
          unfold loadCells' at hl
          split at hl
          · rename_i ha
            split at hl
            · rename_i hlen
              simp only [Except.ok.injEq] at hl
              subst hl
              have hle : f.offset + szOf X.P f.type ≤ vs.size := by
                rw [h2, encL_map, List.length_map]
                have := hlen.1; simp at this; omega
              refine ⟨.agg (vs.extract f.offset (f.offset + szOf X.P f.type)), fun w' _ => ?_, _, rfl, by rw [encL_map]; simp; have := hlen.1; simp at this; omega, fun k q hq => ?_⟩
              · simp [execOp, h1, Instr.field, run_underlying hu, hfi, part, asAgg, aggOf_some ha, run_sizeOf hlen.2]
              · have hk : k < szOf X.P f.type := by
                  have := (List.getElem?_eq_some_iff.1 hq).1
                  rw [encL_map] at this; simp at this; omega
                obtain ⟨u, hu1, hu2⟩ := hget k q (by
                  rw [encL_map, List.map_take, List.getElem?_take, if_pos hk] at hq
                  rw [encL_map]; exact hq)
                refine ⟨u, ?_, hu2⟩
                rw [Array.getElem?_extract]
                rw [if_pos (by omega)]; exact hu1
            · cases hl
          · rename_i ha
            split at hl
            · rename_i c cs hc
              simp only [Except.ok.injEq] at hl
              subst hl
              obtain ⟨u, hu1, hu2⟩ := hget 0 (c.enc ρ) (by rw [hc]; simp [encL])
              simp only [Nat.add_zero] at hu1
              refine ⟨u, fun w' _ => ?_, hu2⟩
              simp [execOp, h1, Instr.field, run_underlying hu, hfi, part, asAgg, aggOf_some ha, hu1]
            · cases hl
          · cases hl
        · cases h
      · cases h
    · cases h

/-! ### Maps, function values -/
theorem findNow_int (k : Int) : ∀ (es : List MapEntry) (kvs : List (Int × Bool)) (i : Nat), es.map (fun e => (e.key, e.val)) = kvs.map (fun kv => (Value.int .i64 kv.1, Value.bool kv.2)) → ∀ (kd : IntKind),
    Instr.findNow (.int kd) (.int .i64 k) es i = some (match kvs.findIdx? (fun e => e.1 == k) with | some j => some (i + j, .bool (kvs.getD j (0, false)).2) | none => none)
  | [], [], i, h, kd => by simp [Instr.findNow]
  | e :: es, kv :: kvs, i, h, kd => by
    simp only [List.map_cons, List.cons.injEq, Prod.mk.injEq] at h
    obtain ⟨⟨h1, h2⟩, h3⟩ := h
    simp only [Instr.findNow, h1, Instr.sameNow, if_true]
    by_cases hk : k = kv.1
    · have : (k == kv.1) = true := by simp [hk]
      rw [this]
      simp only [List.findIdx?_cons]
      have : (kv.1 == k) = true := by simp [hk]
      simp [this, h2]
    · have h4 : (k == kv.1) = false := by simp [hk]
      have h5 : (kv.1 == k) = false := by simp; exact fun e => hk e.symm
      rw [h4]
      simp only [List.findIdx?_cons, h5]
      rw [findNow_int k es kvs (i + 1) h3 kd]
      cases kvs.findIdx? (fun e => e.1 == k) with
      | none => simp
      | some j => simp; omega
  | [], _ :: _, _, h, _ => by simp at h
  | _ :: _, [], _, h, _ => by simp at h
theorem mget_idx (m : List (Int × Bool)) (k : Int) : mget m k = match m.findIdx? (fun e => e.1 == k) with | some j => (m.getD j (0, false)).2 | none => false := by
  unfold mget
  induction m with
  | nil => rfl
  | cons e m ih =>
    simp only [List.find?_cons, List.findIdx?_cons]
    cases h : (e.1 == k) with
    | true => simp
    | false =>
      simp only
      rw [ih]
      cases hf : m.findIdx? (fun e => e.1 == k) with
      | none => simp
      | some j => simp
theorem makeFunc_ok {f : FuncId} {first caps : Array Operand} (hN : d < X.N) (h : stepMakeFunc st d f first caps = .ok s) : QStep X D Γ st ⟨some d, .makeFunc (.func f) first caps, ty, ps, af, gd⟩ s := by
  unfold stepMakeFunc at h
  split at h
  · cases h
  · rename_i hf
    have hf : first = #[] := Array.eq_empty_of_size_eq_zero (Decidable.of_not_not hf)
    subst hf
    obtain ⟨vs, hvs, h⟩ := ok_bind h
    obtain ⟨cs, hcs, h⟩ := ok_bind h
    simp only [Except.ok.injEq] at h
    subst h
    refine q_put rfl hN fun ρ a w g hi => ?_
    refine ⟨.func (.func f) #[] (caps.map a.eval), fun w' _ => by simp [execOp, Instr.makeFunc], ?_⟩
    have key : ∀ (os : List Operand) (vs : List SV) (cs : List SC), os.mapM st.val = .ok vs → vs.mapM svC = .ok cs →
        os.length = cs.length ∧ ∀ (k : Nat) (q : C), (encL ρ cs)[k]? = some q → CRep w g q ((os.map a.eval).getD k undef) := by
      intro os
      induction os with
      | nil =>
        intro vs cs h1 h2
        simp only [List.mapM_nil] at h1
        cases h1
        simp only [List.mapM_nil] at h2
        cases h2
        exact ⟨rfl, fun k q hq => by simp [encL] at hq⟩
      | cons o os ih =>
        intro vs cs h1 h2
        rw [List.mapM_cons] at h1
        obtain ⟨v, hv, h1⟩ := ok_bind h1
        obtain ⟨vs', hvs', h1⟩ := ok_bind h1
        cases h1
        rw [List.mapM_cons] at h2
        obtain ⟨c, hc, h2⟩ := ok_bind h2
        obtain ⟨cs', hcs', h2⟩ := ok_bind h2
        cases h2
        obtain ⟨l1, l2⟩ := ih vs' cs' hvs' hcs'
        refine ⟨by simp [l1], fun k q hq => ?_⟩
        cases k with
        | zero =>
          simp only [encL, List.getElem?_cons_zero, Option.some.injEq] at hq
          subst hq
          unfold svC at hc
          split at hc
          · cases hc
            exact val_rep hi hv
          · cases hc
        | succ k => exact l2 k q (by simpa [encL] using hq)
    obtain ⟨l1, l2⟩ := key caps.toList vs cs hvs hcs
    refine .fn f (encL ρ cs) _ (by rw [encL_map]; simp; simpa using l1) fun k q hq => ?_
    have := l2 k q hq
    rw [List.getD_eq_getElem?_getD, List.getElem?_map, Array.getElem?_toList] at this
    rw [Array.getD_eq_getD_getElem?, Array.getElem?_map]
    exact this
end
end Go.Pu
/-
  Own work. New blocks: variables, boxes, made slices; which roots a state speaks of.
-/
namespace Go.Pu
open Go Go.RowKit
set_option linter.unusedVariables false

/-! ### Which roots are spoken of: headers (ph), regions (pr) -/
def plOf (ph : Nat → Bool) (l : Loc) : Prop := ph l.1 = true
def prOf (pr : Nat → Bool) (rg : Rg) : Prop := ∀ r, rg = some r → pr r = true
section
variable {ph pr : Nat → Bool} {pl : Loc → Prop} {prr : Rg → Prop}
theorem enc_ok {rg : Rg} (hr : prr rg) : ∀ (t : Ty) (x : t.den) (k : Nat) (q : C), (enc rg t x)[k]? = some q → C.Ok pl prr q
  | .int kd, x, k, q, h => by
    have hk : k = 0 := by have := (List.getElem?_eq_some_iff.1 h).1; simp [enc] at this; exact this
    subst hk; simp only [enc, List.getElem?_cons_zero, Option.some.injEq] at h; subst h; exact .int _ _
  | .bool, x, k, q, h => by
    have hk : k = 0 := by have := (List.getElem?_eq_some_iff.1 h).1; simp [enc] at this; exact this
    subst hk; simp only [enc, List.getElem?_cons_zero, Option.some.injEq] at h; subst h; exact .bool _
  | .unit, x, k, q, h => by simp [enc] at h
  | .pr a b, x, k, q, h => by
    simp only [enc, List.getElem?_append] at h
    split at h
    · exact enc_ok hr a x.1 k q h
    · exact enc_ok hr b x.2 _ q h
  | .sl e a, xs, k, q, h => by
    have hk : k = 0 := by have := (List.getElem?_eq_some_iff.1 h).1; simp [enc] at this; exact this
    subst hk; simp only [enc, List.getElem?_cons_zero, Option.some.injEq] at h; subst h
    refine .ro rg _ (fun _ => hr) fun i cs k q h1 h2 => ?_
    rw [List.getElem?_map, Option.map_eq_some_iff] at h1
    obtain ⟨y, _, rfl⟩ := h1
    exact enc_ok hr a y k q h2
  | .mp, x, k, q, h => by
    have hk : k = 0 := by have := (List.getElem?_eq_some_iff.1 h).1; simp [enc] at this; exact this
    subst hk; simp only [enc, List.getElem?_cons_zero, Option.some.injEq] at h; subst h; exact .gone
theorem encE_ok {r i : Nat} (hl : ∀ k, pl (r, [(i, k)])) : ∀ (t : Ty) (k0 : Nat) (x : t.den) (k : Nat) (q : C), (encE r i k0 t x)[k]? = some q → C.Ok pl prr q
  | .int kd, k0, x, k, q, h => by
    have hk : k = 0 := by have := (List.getElem?_eq_some_iff.1 h).1; simp [encE] at this; exact this
    subst hk; simp only [encE, List.getElem?_cons_zero, Option.some.injEq] at h; subst h; exact .int _ _
  | .bool, k0, x, k, q, h => by
    have hk : k = 0 := by have := (List.getElem?_eq_some_iff.1 h).1; simp [encE] at this; exact this
    subst hk; simp only [encE, List.getElem?_cons_zero, Option.some.injEq] at h; subst h; exact .bool _
  | .unit, k0, x, k, q, h => by simp [encE] at h
  | .pr a b, k0, x, k, q, h => by
    simp only [encE, List.getElem?_append] at h
    split at h
    · exact encE_ok hl a k0 x.1 k q h
    · exact encE_ok hl b _ x.2 _ q h
  | .sl e a, k0, xs, k, q, h => by
    have hk : k = 0 := by have := (List.getElem?_eq_some_iff.1 h).1; simp [encE] at this; exact this
    subst hk; simp only [encE, List.getElem?_cons_zero, Option.some.injEq] at h; subst h
    exact .hd _ (hl k0)
  | .mp, k0, x, k, q, h => by
    have hk : k = 0 := by have := (List.getElem?_eq_some_iff.1 h).1; simp [encE] at this; exact this
    subst hk; simp only [encE, List.getElem?_cons_zero, Option.some.injEq] at h; subst h; exact .gone
theorem vc_ok (v : V) : C.Ok pl prr v.c := by
  unfold V.c
  split
  · exact .int _ _
  · exact .bool _
  · exact .gone
theorem els_ok {rg : Rg} (hr : prr rg) (v : V) : C.Ok pl prr (.ro rg (v.els rg)) := by
  refine .ro rg _ (fun _ => hr) fun i cs k q h1 h2 => ?_
  unfold V.els at h1
  split at h1
  · rw [List.getElem?_map, Option.map_eq_some_iff] at h1
    obtain ⟨y, _, rfl⟩ := h1
    exact enc_ok hr _ y k q h2
  · simp at h1
mutual
theorem SC.okR_ok {ρ : Env} : ∀ (c : SC), c.okR ph pr = true → C.Ok (plOf ph) (prOf pr) (c.enc ρ)
  | .v x, _ => by simp only [SC.enc]; exact vc_ok _
  | .s none x, _ => by simp only [SC.enc]; exact els_ok (fun r h => by cases h) _
  | .s (some r) x, h => by simp only [SC.okR] at h; simp only [SC.enc]; exact els_ok (fun r' h' => by cases h'; exact h) _
  | .nil, _ => by simp only [SC.enc]; exact .nil
  | .h r, h => by simp only [SC.okR] at h; simp only [SC.enc]; exact .hd _ h
  | .hn r i k x, h => by
    simp only [SC.okR, Bool.and_eq_true] at h; simp only [SC.enc]
    exact .both _ _ (.hd _ h.1) (els_ok (fun r' h' => by cases h'; exact h.2) _)
  | .hs r lo hi x, h => by
    simp only [SC.okR, Bool.and_eq_true] at h; simp only [SC.enc]
    exact .both _ _ (.sub _ _ _ _ h.1) (els_ok (fun r' h' => by cases h'; exact h.2) _)
  | .rp rg cells, h => by
    simp only [SC.okR, Bool.and_eq_true] at h; simp only [SC.enc]
    exact .rp _ _ (fun r h' => by subst h'; exact h.1) (okL_ok cells h.2)
  | .fn f caps, h => by simp only [SC.okR] at h; simp only [SC.enc]; exact .fn _ _ (okL_ok caps h)
  | .gone, _ => by simp only [SC.enc]; exact .gone
theorem okL_ok {ρ : Env} : ∀ (cs : List SC), okL ph pr cs = true → ∀ (k : Nat) (q : C), (encL ρ cs)[k]? = some q → C.Ok (plOf ph) (prOf pr) q
  | [], _, k, q, hq => by simp [encL] at hq
  | c :: cs, h, 0, q, hq => by
    simp only [okL, Bool.and_eq_true] at h
    simp only [encL, List.getElem?_cons_zero, Option.some.injEq] at hq
    subst hq; exact SC.okR_ok c h.1
  | c :: cs, h, k + 1, q, hq => by
    simp only [okL, Bool.and_eq_true] at h
    simp only [encL, List.getElem?_cons_succ] at hq
    exact okL_ok cs h.2 k q hq
end
theorem SV.okR_ok {ρ : Env} (v : SV) (h : v.okR ph pr = true) : PV.Ok (plOf ph) (prOf pr) (v.enc ρ) := by
  cases v with
  | c x => exact SC.okR_ok x h
  | agg xs => exact okL_ok xs h
  | ad r e i k => exact h
  | ra rg cells =>
    simp only [SV.okR, Bool.and_eq_true] at h
    exact ⟨fun r h' => by subst h'; exact h.1, okL_ok cells h.2⟩
  | tup rs =>
    simp only [SV.okR, List.all_eq_true] at h
    intro k r hr
    rw [List.getElem?_map, Option.map_eq_some_iff] at hr
    obtain ⟨y, hy, rfl⟩ := hr
    have h1 := okL_ok (ρ := ρ) y.2 (h y (List.mem_of_getElem? hy))
    unfold encR
    split
    · exact h1
    · split
      · rename_i c cs hc; exact h1 0 c (by rw [hc]; rfl)
      · exact .gone
  | und => trivial
  | junk => trivial
theorem subRow_ok : ∀ (t : Ty) (k0 j : Nat) (x : t.den) (row : Row), subRow k0 t x j = some row → Row.Ok pl (prOf pr) row := by
  intro t
  induction t with
  | pr a b iha ihb =>
    intro k0 j x row h
    simp only [subRow] at h
    cases hb : Nat.blt j (k0 + a.n) <;> rw [hb] at h
    · exact ihb _ _ _ _ h
    · exact iha _ _ _ _ h
  | sl e a =>
    intro k0 j x row h
    simp only [subRow] at h
    cases hb : Nat.beq j k0 <;> rw [hb] at h
    · cases h
    · cases h
      intro i cs k q h1 h2
      rw [List.getElem?_map, Option.map_eq_some_iff] at h1
      obtain ⟨y, _, rfl⟩ := h1
      exact enc_ok (fun r h' => by cases h') a y k q h2
  | _ => intro k0 j x row h; simp [subRow] at h
theorem rows_nil_list (ρ : Env) (r : Nat) (e : TypeId) (a : Ty) (v : At) (nl : Bool) (inner : Option Rg) : RK.rows ρ r (.list e a v nl inner) [] = some (.row false nl e (((v.get ρ).as (.sl e a)).mapIdx fun i y => encIn inner r i a y)) := by
  cases inner <;> rfl
theorem rows_cons_list {ρ : Env} {r : Nat} {e : TypeId} {a : Ty} {v : At} {nl : Bool} {inner : Option Rg} {q : Nat × Nat} {p : List (Nat × Nat)} {row : Row} (h : RK.rows ρ r (.list e a v nl inner) (q :: p) = some row) :
    inner = none ∧ p = [] ∧ ∃ y, ((v.get ρ).as (.sl e a) : List a.den)[q.1]? = some y ∧ subRow 0 a y q.2 = some row := by
  obtain ⟨i, k⟩ := q
  cases p with
  | cons _ _ => cases inner <;> simp [RK.rows] at h
  | nil =>
    cases inner with
    | some rg => simp [RK.rows] at h
    | none =>
      have h : (((v.get ρ).as (.sl e a) : List a.den)[i]?).bind (fun y => subRow 0 a y k) = some row := h
      rw [Option.bind_eq_some_iff] at h
      obtain ⟨y, h1, h2⟩ := h
      exact ⟨rfl, rfl, y, h1, h2⟩
theorem rows_cons_listH {ρ : Env} {r : Nat} {e : TypeId} {a : Ty} {v : At} {nl : Bool} {i' : At} {k' : Nat} {q : Nat × Nat} {p : List (Nat × Nat)} {row : Row} (h : RK.rows ρ r (.listH e a v nl i' k') (q :: p) = some row) :
    p = [] ∧ q ≠ (i'.nat ρ, k') ∧ ∃ y, ((v.get ρ).as (.sl e a) : List a.den)[q.1]? = some y ∧ subRow 0 a y q.2 = some row := by
  obtain ⟨i, k⟩ := q
  cases p with
  | cons _ _ => simp [RK.rows] at h
  | nil =>
    have h : (bif Nat.beq i (i'.nat ρ) && Nat.beq k k' then none else (((v.get ρ).as (.sl e a) : List a.den)[i]?).bind (fun y => subRow 0 a y k)) = some row := h
    cases hb : (Nat.beq i (i'.nat ρ) && Nat.beq k k') with
    | true => rw [hb] at h; cases h
    | false =>
      rw [hb] at h
      simp only [cond_false, Option.bind_eq_some_iff] at h
      obtain ⟨y, h1, h2⟩ := h
      refine ⟨rfl, ?_, y, h1, h2⟩
      intro e0
      cases e0
      simp at hb
theorem RK.okR_ok {ρ : Env} {r : Nat} (k : RK) (h : k.okR ph pr = true) (hl : ∀ p, p ≠ [] → pl (r, p)) (hp : ∀ l, plOf ph l → pl l) (p : List (Nat × Nat)) (row : Row) (hr : k.rows ρ r p = some row) : Row.Ok pl (prOf pr) row := by
  cases k with
  | box e cells =>
    cases p with
    | cons q p => simp [RK.rows] at hr
    | nil =>
      simp only [RK.rows, Option.some.injEq] at hr
      subst hr
      intro i cs k q h1 h2
      cases i with
      | zero => cases h1; exact (okL_ok cells h k q h2).mono hp (fun _ h => h)
      | succ i => cases h1
  | list e a v nl inner =>
    cases p with
    | nil =>
      rw [rows_nil_list] at hr
      simp only [Option.some.injEq] at hr
      subst hr
      intro i cs k q h1 h2
      rw [List.getElem?_mapIdx, Option.map_eq_some_iff] at h1
      obtain ⟨y, _, rfl⟩ := h1
      cases inner with
      | none => exact encE_ok (fun k => hl _ (by simp)) a 0 y k q h2
      | some rg => exact enc_ok (fun r h' => by subst h'; exact h) a y k q h2
    | cons q p =>
      obtain ⟨_, _, y, _, hs⟩ := rows_cons_list hr
      exact subRow_ok _ _ _ _ _ hs
  | listH e a v nl i k =>
    cases p with
    | nil =>
      simp only [RK.rows, Option.some.injEq] at hr
      subst hr
      intro i cs k q h1 h2
      rw [List.getElem?_mapIdx, Option.map_eq_some_iff] at h1
      obtain ⟨y, _, rfl⟩ := h1
      exact encE_ok (fun k => hl _ (by simp)) a 0 y k q h2
    | cons q p =>
      obtain ⟨_, _, y, _, hs⟩ := rows_cons_listH hr
      exact subRow_ok _ _ _ _ _ hs
  | mp v =>
    cases p with
    | cons q p => simp [RK.rows] at hr
    | nil =>
      simp only [RK.rows, Option.some.injEq] at hr
      subst hr; trivial
  | dead => cases p <;> simp [RK.rows] at hr
end
theorem all_slot {st : St} {p : SV → Bool} (h : st.slots.all p = true) (hj : p .junk = true) (s : Nat) : p (st.slot s) = true := by
  unfold St.slot
  rw [List.getD]
  cases hs : st.slots[s]? with
  | none => exact hj
  | some v => exact List.all_eq_true.1 h v (List.mem_of_getElem? hs)
theorem all_rk {st : St} {p : RK → Bool} (h : st.roots.all p = true) (hj : p .dead = true) (s : Nat) : p (st.rk s) = true := by
  unfold St.rk
  rw [List.getD]
  cases hs : st.roots[s]? with
  | none => exact hj
  | some v => exact List.all_eq_true.1 h v (List.mem_of_getElem? hs)
theorem rk_lt {st : St} {r : Nat} (h : st.rk r ≠ .dead) : r < st.nr := by
  unfold St.rk St.nr at *
  rcases Nat.lt_or_ge r st.roots.length with h' | h'
  · exact h'
  · rw [List.getD, List.getElem?_eq_none h'] at h; exact absurd rfl h
theorem rows_dead (ρ : Env) (r : Nat) (p : List (Nat × Nat)) : RK.rows ρ r .dead p = none := by cases p <;> rfl

section
variable {X : Ctx} {D : Nat → Prop} {Γ : List FE} {st : St} {ρ : Env} {a : Act} {w : World} {g : G}
/-- A new block, a new root, its handle in slot d. -/
theorem TInv.newRootX (h : TInv X D st ρ a w g) (hw : st.rok = true) {d : Nat} (hd : d < X.N) (k : RK) (o : Obj) (v : Value)
    (hrow : ∀ (g' : G), (∀ b, g.S b → g'.S b) → g'.hdr (st.nr, []) = v → (∀ p, p ≠ [] → g'.hdr (st.nr, p) = .slice none 0 0) → g'.own w.heap.size = some (st.nr, []) → (∀ l, l.1 < st.nr → g'.hdr l = g.hdr l) → (∀ rg, prOf (fun r => Nat.blt r st.nr) rg → ∀ b, g.reg rg b → g'.reg rg b ∧ (w.alloc o).heap[b]? = w.heap[b]?) →
      ∀ p row, k.rows ρ st.nr p = some row → RowRep X.P (w.alloc o) g' (st.nr, p) row)
    :
    ∃ g', TInv X D ((st.push k).put d (.c (.h st.nr))) ρ (a.put (some d) v) (w.alloc o) g' ∧ g'.hdr (st.nr, []) = v ∧ g'.own w.heap.size = some (st.nr, []) ∧ (∀ l, l.1 < st.nr → g'.hdr l = g.hdr l) ∧ (∀ b l, g.own b = some l → g'.own b = some l ∧ (w.alloc o).heap[b]? = w.heap[b]?) := by
  unfold St.rok at hw
  simp only [Bool.and_eq_true, List.all_eq_true, Nat.blt_eq] at hw
  obtain ⟨hw, hfix⟩ := hw
  let g' : G := { S := g.S, own := fun b => if b = w.heap.size then some (st.nr, []) else g.own b, hdr := fun l => if l.1 = st.nr then (if l.2 = [] then v else .slice none 0 0) else g.hdr l }
  have hL : Lat w (w.alloc o) := (Below.refl _ _).alloc (Nat.le_refl _) o
  have hok := h.inv.ok
  have hh : ∀ l, plOf (fun r => Nat.blt r st.nr) l → g'.hdr l = g.hdr l := fun l hl => by
    simp only [plOf, Nat.blt_eq] at hl
    simp only [g']
    rw [if_neg (by omega)]
  have hr : ∀ rg, prOf (fun r => Nat.blt r st.nr) rg → ∀ b, g.reg rg b → g'.reg rg b ∧ (w.alloc o).heap[b]? = w.heap[b]? := fun rg _ b hb => by
    have hlt : b < w.heap.size := by
      cases rg with
      | none => exact (hok.S b hb).1
      | some r =>
        rcases hb with hb | ⟨p, hb⟩
        · exact (hok.S b hb).1
        · exact (hok.own b _ hb).2.1
    refine ⟨?_, hL.block b hlt⟩
    cases rg with
    | none => exact hb
    | some r =>
      rcases hb with hb | ⟨p, hb⟩
      · exact .inl hb
      · exact .inr ⟨p, by simp only [g']; rw [if_neg (by omega)]; exact hb⟩
  have hlt : d < a.tmps.size := by rw [h.inv.size]; exact hd
  refine ⟨g', ⟨h.typ, h.inv.next (plOf fun r => Nat.blt r st.nr) (prOf fun r => Nat.blt r st.nr) hh hr ⟨hok.chg.trans (Chg.of_lat hL hok.base), Nat.le_trans hok.base hL.size, fun b hb => ⟨Nat.lt_of_lt_of_le (hok.S b hb).1 hL.size, (hok.S b hb).2⟩, fun b l hl => ?_⟩ (by simp [Act.put]) rfl (fun s => ?_) (fun l row hl => ?_), fun r hr0 => ?_, ?_⟩, by simp [g'], by simp [g'], fun l hl => by { simp only [g']; rw [if_neg (by omega)] }, fun b l hb => ⟨by { have := (hok.own b _ hb).2.1; simp only [g']; rw [if_neg (by omega)]; exact hb }, hL.block b (hok.own b _ hb).2.1⟩⟩
  · simp only [g'] at hl
    split at hl
    · rename_i hb; subst hb
      exact ⟨.inr hok.base, by simp, fun hS => by have := (hok.S _ hS).1; omega⟩
    · obtain ⟨h1, h2, h3⟩ := hok.own b l hl
      exact ⟨h1, Nat.lt_of_lt_of_le h2 hL.size, h3⟩
  · rcases St.slot_put (st.push k) d s (.c (.h st.nr)) with ⟨e, rfl⟩ | ⟨e, hs⟩ | e
    · right; right
      rw [e]
      simp only [Act.put]
      rw [getD_set_eq _ _ _ hlt]
      exact .hd _ _ (by simp [g'])
    · right; left
      refine ⟨by rw [e]; rfl, ?_, ?_⟩
      · simp only [Act.put]
        rw [getD_set_ne' _ _ _ _ (Ne.symm hs)]
      · unfold St.okR at hw
        simp only [Bool.and_eq_true] at hw
        exact SV.okR_ok _ (all_slot hw.1 rfl s)
    · left; rw [e]; rfl
  · have hrk : ((st.push k).put d (.c (.h st.nr))).rk l.1 = if l.1 = st.nr then k else st.rk l.1 := by
      unfold St.put St.push St.rk St.nr
      simp only [List.getD]
      split
      · rename_i e; rw [e]; simp
      · rename_i e
        rcases Nat.lt_or_ge l.1 st.roots.length with h' | h'
        · rw [List.getElem?_append_left h']
        · rw [List.getElem?_append_right h', List.getElem?_eq_none (by simp; omega), List.getElem?_eq_none h']
    have hl : RK.rows ρ l.1 (((st.push k).put d (.c (.h st.nr))).rk l.1) l.2 = some row := hl
    rw [hrk] at hl
    split at hl
    · rename_i e
      right
      obtain ⟨l1, l2⟩ := l
      simp only at e
      subst e
      exact hrow g' (fun _ h => h) (by simp [g']) (fun p hp => by simp [g', hp]) (by simp [g']) (fun l hl => hh l (by simp [plOf]; exact hl)) hr l2 row hl
    · rename_i e
      left
      have hlt : l.1 < st.nr := rk_lt (fun e0 => by rw [e0, rows_dead] at hl; cases hl)
      unfold St.okR at hw
      simp only [Bool.and_eq_true] at hw
      refine ⟨hl, by simp [plOf]; exact hlt, RK.okR_ok (st.rk l.1) (all_rk hw.2 rfl l.1) (fun p _ => by simp [plOf]; exact hlt) (fun _ h => h) l.2 row hl, fun b hb => ⟨?_, hL.block b (hok.own b _ hb).2.1⟩⟩
      have := (hok.own b _ hb).2.1
      simp only [g']
      rw [if_neg (by omega)]; exact hb
  · rw [hh (r, []) (by simp [plOf]; exact hfix r hr0)]; exact h.fixd r hr0
  · refine ⟨fun b hb => ?_, fun r b q hd hb hq => ?_⟩
    · obtain ⟨p, q, h1, h2, h3⟩ := h.dirt.1 b hb
      refine ⟨p, q, h1, ?_, h3⟩
      have := (hok.own b _ h2).2.1
      simp only [g']
      rw [if_neg (by omega)]; exact h2
    · simp only [g'] at hb
      split at hb
      · simp only [Option.some.injEq, Prod.mk.injEq] at hb; exact absurd hb.2.symm hq
      · exact h.dirt.2 r b q hd hb hq
theorem TInv.newRoot (h : TInv X D st ρ a w g) (hw : st.rok = true) {d : Nat} (hd : d < X.N) (k : RK) (o : Obj) (v : Value)
    (hrow : ∀ (g' : G), (∀ b, g.S b → g'.S b) → g'.hdr (st.nr, []) = v → (∀ p, p ≠ [] → g'.hdr (st.nr, p) = .slice none 0 0) → g'.own w.heap.size = some (st.nr, []) → (∀ l, l.1 < st.nr → g'.hdr l = g.hdr l) → (∀ rg, prOf (fun r => Nat.blt r st.nr) rg → ∀ b, g.reg rg b → g'.reg rg b ∧ (w.alloc o).heap[b]? = w.heap[b]?) →
      ∀ p row, k.rows ρ st.nr p = some row → RowRep X.P (w.alloc o) g' (st.nr, p) row) :
    ∃ g', TInv X D ((st.push k).put d (.c (.h st.nr))) ρ (a.put (some d) v) (w.alloc o) g' := by
  obtain ⟨g', h1, _⟩ := h.newRootX hw hd k o v hrow
  exact ⟨g', h1⟩
end
end Go.Pu
/-
  Own work. Operations that make new blocks.
-/
namespace Go.Pu
open Go Go.RowKit
set_option linter.unusedVariables false

section
variable {X : Ctx} {D : Nat → Prop} {Γ : List FE} {st : St} {ρ : Env} {a : Act} {w : World} {g : G}
/-- A step that may change memory. -/
def WStep (X : Ctx) (D : Nat → Prop) (Γ : List FE) (nr : Bool) (st : St) (o : Oper) (s : Step) : Prop :=
  ∀ ρ ρ' a w g, TInv X D st ρ a w g → st.wf = true → st.rok = true → evalB Γ (s.es.map (·.1)) ρ = some ρ' →
    o.wp X.P a w (fun a' w' => (nr = true → RelD D w w') ∧ ∃ g', TInv X D s.st ρ' a' w' g') (fun _ _ _ => False)
theorem zeroC_rep (ρ : Env) (v : Value) : CRep w g ((zeroC v).enc ρ) v := by
  unfold zeroC
  split
  · simp only [SC.enc, At.get, V.c]; exact .int _ _
  · simp only [SC.enc, At.get, V.c]; exact .bool _
  · simp only [SC.enc]; exact .nil
  · simp only [SC.enc]; exact .gone _
theorem zeroSC_spec {P : Program} {e : TypeId} {cs : List SC} (h : zeroSC P e = some cs) : ∃ i z, P.info? e = some i ∧ i.zero = some z ∧ cs = z.cells.toList.map zeroC := by
  unfold zeroSC at h
  cases hi : P.info? e with
  | none => simp [hi] at h
  | some i =>
    cases hz : i.zero with
    | none => simp [hi, hz] at h
    | some z => simp [hi, hz] at h; exact ⟨i, z, rfl, hz, h.symm⟩
/-- The row of a new box. -/
theorem box_row {P : Program} {l : Loc} {g' : G} {e : TypeId} {cells : List C} {vs : Array Value} (hv : g'.hdr l = .pointer (some ⟨w.heap.size, 0, none⟩)) (ho : g'.own w.heap.size = some l) (hs : cells.length = szOf P e) (h0 : 0 < szOf P e) (hl : vs.size = cells.length)
    (hc : ∀ (k : Nat) (q : C), cells[k]? = some q → ∃ u, vs[k]? = some u ∧ CRep (w.alloc (.cells vs e)) g' q u) : RowRep P (w.alloc (.cells vs e)) g' l (.row true false e [cells]) := by
  refine .full _ _ _ _ w.heap.size 0 1 1 vs (fun _ k => vs.getD k undef) ⟨hv, ho, heap_alloc_new w _, rfl, Nat.le_refl _, by simp [maxLen], by omega, h0, fun i c h => ?_, fun i c k x h1 h2 => ?_, fun i c k x h1 h2 => ?_, fun h => by cases h⟩
  · cases i with
    | zero => cases h; exact hs
    | succ i => cases h
  · cases i with
    | zero =>
      cases h1
      obtain ⟨u, hu, _⟩ := hc k x h2
      rw [Nat.zero_mul, Nat.zero_add, Nat.zero_add, Array.getD_eq_getD_getElem?, hu]; rfl
    | succ i => cases h1
  · cases i with
    | zero =>
      cases h1
      obtain ⟨u, hu, hr⟩ := hc k x h2
      rw [Array.getD_eq_getD_getElem?, hu]; exact hr
    | succ i => cases h1
variable {d : Nat} {x y : Operand} {t t' ty : TypeId} {ps : String} {af : Array Edge} {gd : Option (Nat × Bool)} {s : Step} {nr : Bool}
theorem lat_alloc (w : World) (o : Obj) : Lat w (w.alloc o) := (Below.refl _ _).alloc (Nat.le_refl _) o
theorem alloc_ok {e : TypeId} (hN : d < X.N) (h : stepAlloc X.P st d e = .ok s) : WStep X D Γ nr st ⟨some d, .alloc e, ty, ps, af, gd⟩ s := by
  unfold stepAlloc at h
  split at h
  · rename_i cs hz
    split at h
    · rename_i hc
      simp only [Except.ok.injEq] at h
      subst h
      intro ρ ρ' a w g hi hw hk he
      have := evalB_nil he
      subst this
      obtain ⟨i, z, hinfo, hzero, rfl⟩ := zeroSC_spec hz
      have hrun : (execOp a.eval ⟨some d, .alloc e, ty, ps, af, gd⟩).run X.P w = .ok (.value (.pointer (some ⟨w.heap.size, 0, none⟩))) (w.alloc (.cells z.cells e)) := by
        simp [execOp, Instr.alloc, zeroValue, typeInfo, hinfo, hzero, newVar, newRow]
      unfold Oper.wp
      rw [hrun]
      refine ⟨fun _ => .of_lat (lat_alloc _ _), hi.newRoot hk hN _ _ _ fun g' h1 h2 h3 h4 h5 h6 p row hr => ?_⟩
      cases p with
      | cons q p => simp [RK.rows] at hr
      | nil =>
        simp only [RK.rows, Option.some.injEq] at hr
        subst hr
        refine box_row h2 h4 (by rw [encL_map]; simpa using hc.1) hc.2 (by rw [encL_map]; simp) fun k q hq => ?_
        rw [encL_map, List.map_map, List.getElem?_map, Option.map_eq_some_iff] at hq
        obtain ⟨u, hu, rfl⟩ := hq
        exact ⟨u, by simpa using hu, zeroC_rep _ u⟩
    · cases h
  · cases h
theorem ro_one {rg : Rg} {els : List (List C)} {u : Value} (h : CRep w g (.ro rg els) u) : u.oneCell' = true := by cases h <;> rfl
theorem one_cells {u : Value} (h : u.oneCell' = true) : u.cells = #[u] := by cases u <;> first | rfl | cases h
theorem row_one {P : Program} {l : Loc} {row : Row} (h : RowRep P w g l row) : (g.hdr l).oneCell' = true := by
  cases h with
  | nil _ _ hd => rw [hd]; rfl
  | zero _ A hd => rw [hd]; rfl
  | full bx _ _ _ b base n cap cs f hf => rw [hf.hd]; cases bx <;> rfl
  | mp kvs b clk es hd => rw [hd]; rfl
theorem solid_one (hi : TInv X D st ρ a w g) {c : SC} {u : Value} (hs : st.solid c = true) (h : CRep w g (c.enc ρ) u) : u.oneCell' = true := by
  cases c with
  | v x =>
    simp only [St.solid] at hs
    simp only [SC.enc] at h
    split at hs
    · rename_i k hk
      have := V.int_of (At.ty_get hi.typ hk)
      rw [this] at h
      have := crep_int (k := k) h
      rw [this]; rfl
    · rename_i hk
      have := V.bool_of (At.ty_get hi.typ hk)
      rw [this] at h
      have := crep_bool h
      rw [this]; rfl
    · cases hs
  | s rg x => simp only [SC.enc] at h; exact ro_one h
  | nil => simp only [SC.enc] at h; cases h; rfl
  | h r =>
    simp only [SC.enc] at h
    rw [hd_eq h]
    simp only [St.solid] at hs
    cases hr : st.rk r with
    | dead => rw [hr] at hs; cases hs
    | box e cells => exact row_one (hi.inv.row (r, []) (.row true false e [encL ρ cells]) (by simp only [hr, RK.rows]))
    | list e b v nl inner => exact row_one (row_of hi hr)
    | listH e b v nl i k => exact row_one (hi.inv.row (r, []) (.row false nl e (((v.get ρ).as (.sl e b)).mapIdx fun i y => encE r i 0 b y)) (by simp only [hr, RK.rows]))
    | mp v => exact row_one (hi.inv.row (r, []) (.mp ((v.get ρ).as .mp)) (by simp only [hr, RK.rows]))
  | hn r i k x => simp only [SC.enc] at h; exact ro_one (both_r h)
  | hs r lo hi' x => simp only [SC.enc] at h; exact ro_one (both_r h)
  | rp rg cells => simp only [SC.enc] at h; cases h; rfl
  | fn f caps => simp only [SC.enc] at h; cases h; rfl
  | gone => simp [St.solid] at hs
theorem cells_ok {v : SV} {cs : List SC} (h : st.cells v = .ok cs) : svCells v = .ok cs ∧ cs.all st.solid = true := by
  unfold St.cells at h
  obtain ⟨cs', hc, h⟩ := ok_bind h
  split at h
  · rename_i hs
    simp only [Except.ok.injEq] at h
    subst h
    exact ⟨hc, hs⟩
  · cases h
/-- A value's cells, on the machine. -/
theorem cells_rep (hi : TInv X D st ρ a w g) {o : Operand} {v : SV} {cs : List SC} (hv : st.val o = .ok v) (hc : st.cells v = .ok cs) :
    (a.eval o).cells.size = cs.length ∧ ∀ (k : Nat) (q : C), (encL ρ cs)[k]? = some q → ∃ u, (a.eval o).cells[k]? = some u ∧ CRep w g q u ∧ u.oneCell' = true := by
  obtain ⟨h1, h2⟩ := cells_ok hc
  have hp := val_rep hi hv
  have one : ∀ (k : Nat) (q : C) (u : Value), (encL ρ cs)[k]? = some q → CRep w g q u → u.oneCell' = true := fun k q u hq hu => by
    rw [encL_map, List.getElem?_map, Option.map_eq_some_iff] at hq
    obtain ⟨c, hc, rfl⟩ := hq
    exact solid_one hi (List.all_eq_true.1 h2 c (List.mem_of_getElem? hc)) hu
  unfold svCells at h1
  split at h1
  · rename_i c
    simp only [Except.ok.injEq] at h1
    subst h1
    have hp : CRep w g (c.enc ρ) (a.eval o) := hp
    have ho := one 0 (c.enc ρ) _ (by simp [encL]) hp
    rw [one_cells ho]
    refine ⟨rfl, fun k q hq => ?_⟩
    cases k with
    | zero =>
      simp only [encL, List.getElem?_cons_zero, Option.some.injEq] at hq
      subst hq
      exact ⟨_, rfl, hp, ho⟩
    | succ k => simp [encL] at hq
  · rename_i xs
    simp only [Except.ok.injEq] at h1
    subst h1
    obtain ⟨vs, e1, e2, e3⟩ := hp
    rw [e1]
    refine ⟨by show vs.size = _; rw [e2, encL_map, List.length_map], fun k q hq => ?_⟩
    obtain ⟨u, hu, hr⟩ := e3 k q hq
    exact ⟨u, hu, hr, one k q u hq hr⟩
  · cases h1
theorem alloc_keep {pl : Loc → Prop} {pr : Rg → Prop} {g' : G} {w' : World} {q : C} {u : Value} (h : CRep w g q u) (hl : ∀ l, pl l → g'.hdr l = g.hdr l) (hr : ∀ rg, pr rg → ∀ b, g.reg rg b → g'.reg rg b ∧ w'.heap[b]? = w.heap[b]?) (ho : C.Ok pl pr q) : CRep w' g' q u := h.keep hl hr ho
theorem rok_val {o : Operand} {v : SV} (hk : st.rok = true) (hv : st.val o = .ok v) : v.okR (fun r => Nat.blt r st.nr) (fun r => Nat.blt r st.nr) = true := by
  unfold St.rok St.okR at hk
  simp only [Bool.and_eq_true] at hk
  cases o with
  | tmp t =>
    simp only [St.val, Except.ok.injEq] at hv
    subst hv
    exact all_slot hk.1.1 rfl t
  | const c =>
    simp only [St.val] at hv
    unfold constV at hv
    split at hv <;> simp only [Except.ok.injEq, reduceCtorEq] at hv <;> subst hv <;> rfl
  | func f => simp only [St.val, Except.ok.injEq] at hv; subst hv; rfl
  | global n => simp [St.val] at hv
theorem rok_cells {ph pr : Nat → Bool} {v : SV} {cs : List SC} (h : v.okR ph pr = true) (hc : svCells v = .ok cs) : okL ph pr cs = true := by
  unfold svCells at hc
  split at hc
  · simp only [Except.ok.injEq] at hc; subst hc; simp only [okL, Bool.and_true]; exact h
  · simp only [Except.ok.injEq] at hc; subst hc; exact h
  · cases hc
theorem box_ok {e : TypeId} (hN : d < X.N) (h : stepBox X.P st d e x = .ok s) : WStep X D Γ nr st ⟨some d, .box e x, ty, ps, af, gd⟩ s := by
  unfold stepBox at h
  obtain ⟨v, hv, h⟩ := ok_bind h
  obtain ⟨cs, hcs, h⟩ := ok_bind h
  split at h
  · cases h
  · rename_i hc
    have hc := Decidable.of_not_not hc
    simp only [Except.ok.injEq] at h
    subst h
    intro ρ ρ' a w g hi hw hk he
    have := evalB_nil he
    subst this
    obtain ⟨h1, h2⟩ := cells_rep hi hv hcs
    have hrun : (execOp a.eval ⟨some d, .box e x, ty, ps, af, gd⟩).run X.P w = .ok (.value (.pointer (some ⟨w.heap.size, 0, none⟩))) (w.alloc (.cells (a.eval x).cells e)) := by
      simp only [execOp, Instr.box, newVar, newRow, Sem.run_bind, run_newObj_alloc, Sem.run_pure, Result.andThen_ok]
    unfold Oper.wp
    rw [hrun]
    refine ⟨fun _ => .of_lat (lat_alloc _ _), hi.newRoot hk hN _ _ _ fun g' q1 q2 q3 q4 q5 q6 p row hr => ?_⟩
    cases p with
    | cons q p => simp [RK.rows] at hr
    | nil =>
      simp only [RK.rows, Option.some.injEq] at hr
      subst hr
      refine box_row q2 q4 (by rw [encL_map, List.length_map]; exact hc.1) hc.2 (by rw [encL_map, List.length_map]; exact h1) fun k q hq => ?_
      obtain ⟨u, hu, hr, _⟩ := h2 k q hq
      refine ⟨u, hu, hr.keep (pl := plOf fun r => Nat.blt r st.nr) (fun l hl => q5 l (by simpa [plOf] using hl)) q6 ?_⟩
      exact okL_ok cs (rok_cells (rok_val hk hv) (cells_ok hcs).1) k q hq
theorem makeMap_ok {mt : TypeId} (hN : d < X.N) : WStep X D Γ nr st ⟨some d, .makeMap mt none, ty, ps, af, gd⟩ ⟨[], (st.push (.mp (.nil .mp))).put d (.c (.h st.nr))⟩ := by
  intro ρ ρ' a w g hi hw hk he
  have := evalB_nil he
  subst this
  have hrun : (execOp a.eval ⟨some d, .makeMap mt none, ty, ps, af, gd⟩).run X.P w = .ok (.value (.map (some w.heap.size))) (w.alloc (.map #[] 0)) := by
    simp [execOp, Instr.makeMap]
  unfold Oper.wp
  rw [hrun]
  refine ⟨fun _ => .of_lat (lat_alloc _ _), hi.newRoot hk hN _ _ _ fun g' q1 q2 q3 q4 q5 q6 p row hr => ?_⟩
  cases p with
  | cons q p => simp [RK.rows] at hr
  | nil =>
    simp only [RK.rows, Option.some.injEq] at hr
    subst hr
    exact .mp _ w.heap.size 0 #[] q2 q4 (heap_alloc_new w _) rfl

/-! ### make -/
theorem madeCells_get (z : Array Value) (n m : Nat) (hm : m < n) (hz : 0 < z.size) : (madeCells z n)[m]? = z[m % z.size]? := by
  have h1 : m % z.size < z.size := Nat.mod_lt _ hz
  simp [madeCells, hm, h1]
theorem beqL_get : ∀ (cs ds : List SC), beqL cs ds = true → cs.length = ds.length ∧ ∀ (k : Nat) (c d : SC), cs[k]? = some c → ds[k]? = some d → c.beq d = true
  | [], [], _ => ⟨rfl, fun k c d h => by simp at h⟩
  | c :: cs, e :: ds, h => by
    simp only [beqL, Bool.and_eq_true] at h
    obtain ⟨h1, h2⟩ := beqL_get cs ds h.2
    refine ⟨by simp [h1], fun k c' d' q1 q2 => ?_⟩
    cases k with
    | zero => simp at q1 q2; subst q1 q2; exact h.1
    | succ k => exact h2 k c' d' (by simpa using q1) (by simpa using q2)
  | [], _ :: _, h => by simp [beqL] at h
  | _ :: _, [], h => by simp [beqL] at h
theorem zeroC_beq {u : Value} {c : SC} (h : (zeroC u).beq c = true) : (∀ k, c = .v (.int k 0) → u = .int k 0) ∧ (c = .v (.bool false) → u = .bool false) ∧ (c = .nil → u = .slice none 0 0) := by
  unfold zeroC at h
  split at h
  · refine ⟨fun k hk => ?_, fun hk => ?_, fun hk => ?_⟩ <;> subst hk <;> simp [SC.beq] at h
    obtain ⟨rfl, rfl⟩ := h; rfl
  · refine ⟨fun k hk => ?_, fun hk => ?_, fun hk => ?_⟩ <;> subst hk <;> simp [SC.beq] at h
    subst h; rfl
  · refine ⟨fun k hk => ?_, fun hk => ?_, fun hk => ?_⟩ <;> subst hk <;> simp [SC.beq] at h
    rfl
  · refine ⟨fun k hk => ?_, fun hk => ?_, fun hk => ?_⟩ <;> subst hk <;> simp [SC.beq] at h
theorem zeroCells_length : ∀ (t : Ty), (zeroCells t).length = t.n
  | .int _ => rfl
  | .bool => rfl
  | .unit => rfl
  | .pr a b => by simp only [zeroCells, List.length_append, zeroCells_length a, zeroCells_length b, Ty.n]
  | .sl _ _ => rfl
  | .mp => rfl
/-- A zero cell against an element's encoding. -/
theorem zero_enc {r i : Nat} (hn : ∀ k, g.hdr (r, [(i, k)]) = .slice none 0 0) : ∀ (t : Ty) (k0 : Nat) (k : Nat) (c : SC), (zeroCells t)[k]? = some c → ∃ q, (encE r i k0 t t.dflt)[k]? = some q ∧ ∀ u, (zeroC u).beq c = true → CRep w g q u
  | .int kd, k0, k, c, h => by
    have hk : k = 0 := by have := (List.getElem?_eq_some_iff.1 h).1; simp [zeroCells] at this; exact this
    subst hk
    simp only [zeroCells, List.getElem?_cons_zero, Option.some.injEq] at h
    refine ⟨.int kd 0, rfl, fun u hu => ?_⟩
    rw [(zeroC_beq hu).1 kd h.symm]; exact .int _ _
  | .bool, k0, k, c, h => by
    have hk : k = 0 := by have := (List.getElem?_eq_some_iff.1 h).1; simp [zeroCells] at this; exact this
    subst hk
    simp only [zeroCells, List.getElem?_cons_zero, Option.some.injEq] at h
    refine ⟨.bool false, rfl, fun u hu => ?_⟩
    rw [(zeroC_beq hu).2.1 h.symm]; exact .bool _
  | .unit, k0, k, c, h => by simp [zeroCells] at h
  | .pr a b, k0, k, c, h => by
    simp only [zeroCells, List.getElem?_append, zeroCells_length] at h
    simp only [encE, Ty.dflt, List.getElem?_append, encE_length]
    split at h
    · rename_i hk; simp only [hk, if_true]; exact zero_enc hn a k0 k c h
    · rename_i hk; simp only [hk, if_false]; exact zero_enc hn b _ _ c h
  | .sl e a, k0, k, c, h => by
    have hk : k = 0 := by have := (List.getElem?_eq_some_iff.1 h).1; simp [zeroCells] at this; exact this
    subst hk
    simp only [zeroCells, List.getElem?_cons_zero, Option.some.injEq] at h
    refine ⟨.hd (r, [(i, k0)]), rfl, fun u hu => ?_⟩
    rw [(zeroC_beq hu).2.2 h.symm]; exact .hd _ _ (hn k0).symm
  | .mp, k0, k, c, h => by
    have hk : k = 0 := by have := (List.getElem?_eq_some_iff.1 h).1; simp [zeroCells] at this; exact this
    subst hk
    exact ⟨.gone, rfl, fun u _ => .gone u⟩
/-- The row of a new list. -/
theorem list_row {P : Program} {l : Loc} {g' : G} {nl : Bool} {e : TypeId} {els : List (List C)} {cap : Nat} {vs : Array Value} {f : Nat → Nat → Value} (hv : g'.hdr l = .slice (some ⟨w.heap.size, 0, none⟩) els.length cap) (ho : g'.own w.heap.size = some l) (hcap : els.length ≤ cap) (hm : cap ≤ maxLen) (h0 : 0 < szOf P e) (hl : cap * szOf P e = vs.size)
    (hsz : ∀ (i : Nat) (c : List C), els[i]? = some c → c.length = szOf P e) (hnl : nl = true → els ≠ [])
    (hc : ∀ (i : Nat) (c : List C) (k : Nat) (q : C), els[i]? = some c → c[k]? = some q → vs[i * szOf P e + k]? = some (f i k) ∧ CRep (w.alloc (.cells vs e)) g' q (f i k)) : RowRep P (w.alloc (.cells vs e)) g' l (.row false nl e els) :=
  .full _ _ _ _ w.heap.size 0 els.length cap vs f ⟨hv, ho, heap_alloc_new w _, rfl, hcap, hm, by omega, h0, hsz, fun i c k x h1 h2 => by rw [Nat.zero_add]; exact (hc i c k x h1 h2).1, fun i c k x h1 h2 => (hc i c k x h1 h2).2, hnl⟩
theorem dflt_subRow : ∀ (t : Ty) (k0 j : Nat) (row : Row), subRow k0 t t.dflt j = some row → ∃ e, row = .row false false e []
  | .pr a b, k0, j, row, h => by
    simp only [subRow, Ty.dflt] at h
    cases hb : Nat.blt j (k0 + a.n) <;> rw [hb] at h
    · exact dflt_subRow b _ _ _ h
    · exact dflt_subRow a _ _ _ h
  | .sl e a, k0, j, row, h => by
    simp only [subRow, Ty.dflt] at h
    cases hb : Nat.beq j k0 <;> rw [hb] at h
    · cases h
    · cases h; exact ⟨e, rfl⟩
  | .int _, _, _, _, h => by simp [subRow] at h
  | .bool, _, _, _, h => by simp [subRow] at h
  | .unit, _, _, _, h => by simp [subRow] at h
  | .mp, _, _, _, h => by simp [subRow] at h
theorem TInv.bindOne (hi : TInv X D st ρ a w g) (hw : st.wf = true) {v : V} {t : Ty} (ht : v.t = t) : TInv X D (st.bind t) (ρ ++ [v]) a w g := by
  have hg := hi.grow hw [v]
  simp only [List.map_cons, List.map_nil, ht] at hg
  exact hg
theorem rok_bind (hk : st.rok = true) (t : Ty) : (st.bind t).rok = true := hk
theorem make_ok (hN : d < X.N) (h : stepMake X.P st d t x y = .ok s) : WStep X D Γ nr st ⟨some d, .makeSlice t x y, ty, ps, af, gd⟩ s := by
  unfold stepMake at h
  obtain ⟨⟨k, m⟩, hx, h⟩ := ok_bind h
  obtain ⟨⟨k', n⟩, hy, h⟩ := ok_bind h
  obtain ⟨x1, x2⟩ := intOf_ok hx
  obtain ⟨y1, y2⟩ := intOf_ok hy
  simp only at h
  split at h
  · cases h
  · rename_i e he
    split at h
    · cases h
    · rename_i b hb
      by_cases hc : (k = .i64 ∧ k' = .i64 ∧ m = n ∧ b.flat1 = true ∧ b.n = szOf X.P e ∧ 0 < b.n ∧ zeroIs X.P e b = true)
      · rw [if_neg (fun hh => hh hc)] at h
        simp only [Except.ok.injEq] at h
        subst h
        obtain ⟨rfl, rfl, rfl, hf, hn, h0, hz⟩ := hc
        intro ρ ρ' a w g hi hw hk hev
        obtain ⟨v', hv', rfl⟩ := evalB_one hev
        simp only [Ex.den1, Ex.den, gmake, Option.bind_eq_some_iff, Option.some.injEq] at hv'
        obtain ⟨zs, hzs, rfl⟩ := hv'
        split at hzs
        case isFalse => cases hzs
        rename_i hfit
        simp only [Option.some.injEq] at hzs
        obtain ⟨hn0, hfit⟩ := hfit
        simp only [gfit, decide_eq_true_eq] at hfit
        have ex := val_int hi x1 x2
        have ey := val_int hi y1 y2
        unfold zeroIs at hz
        split at hz
        case h_2 => cases hz
        rename_i cs hcs
        obtain ⟨i, z, hinfo, hzero, rfl⟩ := zeroSC_spec hcs
        obtain ⟨hzl, hzb⟩ := beqL_get _ _ hz
        have hisz : i.size = szOf X.P e := by simp [szOf, hinfo]
        have hzsz : z.cells.size = szOf X.P e := by
          have := hzl; rw [zeroCells_length, hn] at this; simpa using this
        have hib : i.bytes = bytesOf X.P e := by simp [bytesOf, hinfo]
        generalize hN' : (m.get ρ).int.toNat = N at *
        have hNi : (m.get ρ).int = (N : Int) := by omega
        rw [hNi] at ex ey
        have hb' : (i.bytes : Int) * (N : Int) ≤ 281474976710656 := by
          have : ((i.bytes * N : Nat) : Int) ≤ 281474976710656 := by rw [hib, Nat.mul_comm]; omega
          rwa [Int.natCast_mul] at this
        have hrun0 := run_make (P := X.P) w t e i z (elem_under he) hinfo hzero .i64 .i64 N N (by omega) (Int.le_refl _) hb' (by omega)
        simp only [Int.toNat_natCast] at hrun0
        have hrun : (execOp a.eval ⟨some d, .makeSlice t x y, ty, ps, af, gd⟩).run X.P w = .ok (.value (.slice (some ⟨w.heap.size, 0, none⟩) N N)) (w.alloc (.cells (madeCells z.cells (N * i.size)) e)) := by
          simp only [execOp, ex, ey, Sem.run_bind, hrun0, Result.andThen_ok, Sem.run_pure]
        unfold Oper.wp
        rw [hrun]
        have hi2 := hi.bindOne hw (v := ⟨.sl e b, zs⟩) rfl
        refine ⟨fun _ => .of_lat (lat_alloc _ _), hi2.newRoot (rok_bind hk _) hN _ _ _ fun g' q1 q2 q3 q4 q5 q6 p row hr => ?_⟩
        have hval : (st.ref.get (ρ ++ [⟨.sl e b, zs⟩])).as (.sl e b) = zs := by rw [ref_get hi.len]; exact V.as_self _ _
        cases p with
        | nil =>
          rw [rows_nil_list, hval] at hr
          simp only [Option.some.injEq] at hr
          subst hr
          have hzl2 : (zs.mapIdx fun i y => encIn none (st.bind (.sl e b)).nr i b y).length = N := by rw [← hzs]; simp
          have hget : ∀ (j : Nat) (c : List C), (zs.mapIdx fun i y => encIn none (st.bind (.sl e b)).nr i b y)[j]? = some c → j < N ∧ c = encE (st.bind (.sl e b)).nr j 0 b b.dflt := fun j c hc => by
            rw [List.getElem?_mapIdx, ← hzs, List.getElem?_replicate] at hc
            split at hc
            · rename_i hj; simp only [Option.map_some, Option.some.injEq] at hc; exact ⟨hj, hc.symm⟩
            · cases hc
          refine list_row (cap := N) (f := fun _ k => z.cells.getD k undef) (by rw [hzl2]; exact q2) q4 (by omega) (by simp only [maxLen]; omega) (by omega) (by rw [size_madeCells, hisz]) (fun j c hc => by obtain ⟨_, rfl⟩ := hget j c hc; rw [encE_length, hn]) (fun h => by cases h) fun j c k q hc hq => ?_
          obtain ⟨hj, rfl⟩ := hget j c hc
          have hkn : k < szOf X.P e := by rw [← hn, ← encE_length (st.bind (.sl e b)).nr j 0 b b.dflt]; exact (List.getElem?_eq_some_iff.1 hq).1
          have hzk : z.cells[k]? = some (z.cells[k]'(by omega)) := Array.getElem?_eq_getElem (by omega)
          have hlt : j * szOf X.P e + k < N * i.size := by
            rw [hisz]
            have : (j + 1) * szOf X.P e ≤ N * szOf X.P e := Nat.mul_le_mul_right _ hj
            rw [Nat.add_mul, Nat.one_mul] at this
            omega
          refine ⟨?_, ?_⟩
          · rw [madeCells_get _ _ _ hlt (by omega), hzsz, Nat.mul_comm, Nat.mul_add_mod, Nat.mod_eq_of_lt hkn, hzk, Array.getD_eq_getD_getElem?, hzk]; rfl
          · have hzc : (zeroCells b)[k]? = some ((zeroCells b)[k]'(by rw [zeroCells_length]; omega)) := List.getElem?_eq_getElem _
            obtain ⟨q', h1, h2⟩ := zero_enc (w := w.alloc (.cells (madeCells z.cells (N * i.size)) e)) (g := g') (r := (st.bind (.sl e b)).nr) (i := j) (fun k => q3 _ (by simp)) b 0 k _ hzc
            rw [hq] at h1
            cases h1
            rw [Array.getD_eq_getD_getElem?, hzk]
            exact h2 _ (hzb k _ _ (by simp [hzk]) hzc)
        | cons q p =>
          obtain ⟨_, rfl, y, hy, hs⟩ := rows_cons_list hr
          rw [hval, ← hzs, List.getElem?_replicate] at hy
          split at hy
          · cases hy
            obtain ⟨e', rfl⟩ := dflt_subRow _ _ _ _ hs
            exact .nil _ _ (q3 _ (by simp))
          · cases hy
      · rw [if_pos hc] at h; cases h
end
end Go.Pu
