/-
  Own work. The rules of the frame logic: code, calls, boxes; and from the body to the contract.
-/
import Derived.Test.YtphdildkhaeimaaEvD
namespace Go.Ev
open Go Go.RowKit

/-! ### Code -/
def thenK (k : Frame → Prop) (K : Exit → Frame → Prop) : Exit → Frame → Prop
  | .normal, fr => k fr
  | e, fr => K e fr
def blockK (id : Nat) (K : Exit → Frame → Prop) : Exit → Frame → Prop
  | .exit id', fr => bif Nat.beq id' id then K .normal fr else K (.exit id') fr
  | e, fr => K e fr
section
variable {X : Ctx} {fr : Frame} {K : Exit → Frame → Prop}
theorem Ev.seq {x y : Code} (h : Ev X x fr (thenK (fun fr' => Ev X y fr' K) K)) : Ev X (.seq x y) fr K := ⟨fun a w hi =>
  wp_seq (Code.wp_mono (fun e a' w' ⟨fr', hi', hk⟩ => by
    cases e with
    | normal => exact Ev.run hk a' w' hi'
    | _ => exact ⟨fr', hi', hk⟩) (h.run a w hi))⟩
theorem Ev.skip (h : K .normal fr) : Ev X .skip fr K := ⟨fun _ _ hi => wp_skip ⟨fr, hi, h⟩⟩
theorem Ev.exit {id : Nat} (h : K (.exit id) fr) : Ev X (.exit id) fr K := ⟨fun _ _ hi => wp_exit ⟨fr, hi, h⟩⟩
theorem Ev.ret (h : K .ret fr) : Ev X .ret fr K := ⟨fun _ _ hi => wp_ret ⟨fr, hi, h⟩⟩
theorem Ev.block {id : Nat} {c : Code} (h : Ev X c fr (blockK id K)) : Ev X (.block id c) fr K := ⟨fun a w hi =>
  wp_block (Code.wp_mono (fun e a' w' ⟨fr', hi', hk⟩ => by
    cases e with
    | exit id' =>
      simp only [blockK] at hk
      by_cases hid : id' = id
      · subst hid
        rw [beq_self] at hk
        simp only [Exit.inBlock, if_true]
        exact ⟨fr', hi', hk⟩
      · rw [beq_ne hid] at hk
        simp only [Exit.inBlock, hid, if_false]
        exact ⟨fr', hi', hk⟩
    | _ => exact ⟨fr', hi', hk⟩) (h.run a w hi))⟩
theorem Ev.cond {c : Operand} {x y : Code} {b : Bool} (hc : val fr c = .t (.bool b)) (ht : b = true → Ev X x fr K) (hf : b = false → Ev X y fr K) : Ev X (.cond c x y) fr K := ⟨fun a w ⟨g, hi⟩ =>
  wp_cond_split (inv_bool hi hc) (fun h => (ht h).run a w ⟨g, hi⟩) (fun h => (hf h).run a w ⟨g, hi⟩)⟩
theorem Ev.condP {c : Operand} {x y : Code} {p : Prop} [Decidable p] (hc : val fr c = .t (.bool (decide p))) (ht : p → Ev X x fr K) (hf : ¬ p → Ev X y fr K) : Ev X (.cond c x y) fr K :=
  Ev.cond hc (fun h => ht (of_decide_eq_true h)) (fun h => hf (of_decide_eq_false h))
theorem Ev.condT {c : Operand} {x y : Code} (hc : val fr c = .t (.bool true)) (h : Ev X x fr K) : Ev X (.cond c x y) fr K := Ev.cond hc (fun _ => h) (fun h => by cases h)
theorem Ev.condF {c : Operand} {x y : Code} (hc : val fr c = .t (.bool false)) (h : Ev X y fr K) : Ev X (.cond c x y) fr K := Ev.cond hc (fun h => by cases h) (fun _ => h)

theorem ev_rounds {c : Code} (I : Nat → Frame → Prop) (hr : ∀ n fr, I n fr → Ev X c fr (thenK (fun fr' => ∃ m, m < n ∧ I m fr') K)) :
    ∀ (N n : Nat) (fr : Frame) (a : Act) (w : World), n < N → I n fr → Inv X fr a w → Code.rounds X.P c (fun e a' w' => ∃ fr', Inv X fr' a' w' ∧ K e fr') N a w
  | 0, _, _, _, _, hn, _, _ => absurd hn (Nat.not_lt_zero _)
  | N + 1, n, fr, a, w, hn, hI, hi => by
    rw [rounds_succ]
    refine Code.wp_mono (fun e a' w' ⟨fr', hi', hk⟩ => ?_) ((hr n fr hI).run a w hi)
    cases e with
    | normal =>
      obtain ⟨m, hm, hI'⟩ := hk
      exact ev_rounds I hr N m fr' a' w' (by omega) hI' hi'
    | _ => exact ⟨fr', hi', hk⟩
theorem Ev.loop {c : Code} (I : Nat → Frame → Prop) (n : Nat) (h0 : I n fr) (hr : ∀ n fr, I n fr → Ev X c fr (thenK (fun fr' => ∃ m, m < n ∧ I m fr') K)) : Ev X (.loop c) fr K :=
  ⟨fun a w hi => wp_loop_rounds (n + 1) (ev_rounds I hr (n + 1) n fr a w (Nat.lt_succ_self n) h0 hi)⟩

def schedT (l : List Oper) : List (Oper × Bool) := match l with
  | [] => []
  | o :: l => (o, false) :: schedT l
theorem sched_range (ops : Array Oper) : ∀ (l : List Oper) (k : Nat), (∀ j : Nat, l[j]? = ops[k + j]?) → sched false ops (List.range' k l.length) = schedT l
  | [], k, _ => rfl
  | o :: l, k, h => by
    have h0 : ops[k]? = some o := by simpa using (h 0).symm
    have ih := sched_range ops l (k + 1) (fun j => by have := h (j + 1); simpa [Nat.add_assoc, Nat.add_comm 1 j] using this)
    simp only [List.length_cons, List.range'_succ, sched, h0, Bool.false_and, schedT, ih]
theorem Ev.region {id : Nat} {ops : Array Oper} (h : EvO X ops (schedT ops.toList) fr (fun fr' => K .normal fr')) : Ev X (.region id ops false) fr K := ⟨fun a w hi =>
  wp_region_text (Q := fun a' w' => ∃ fr', Inv X fr' a' w' ∧ K .normal fr') (fun _ _ h => h) (by
    have e := sched_range ops ops.toList 0 (by simp)
    rw [Array.length_toList, ← List.range_eq_range'] at e
    rw [e]
    exact h.run a w hi)⟩
theorem Ev.draws {id : Nat} {ops : Array Oper} (hm : X.P.follows .mixedOrders = true) (hl : orderOK ops (X.pm id) = true) (h : EvO X ops (sched true ops (X.pm id)) fr (fun fr' => K .normal fr')) : Ev X (.region id ops true) fr K := ⟨fun a _ ⟨g, hi⟩ =>
  wp_region_lex (Q := fun a' w' => ∃ fr', Inv X fr' a' w' ∧ K .normal fr') (X.pm id) hm hl (fun _ _ h => h) (h.run a _ ⟨g, inv_drew hi⟩)⟩
end

/-! ### A new value in a slot, in a later world -/
theorem inv_place {X : Ctx} {fr : Frame} {a : Act} {w w' : World} {g g' : G} (h : InvG X fr a w g) {d : Nat} {p : PV} {v : Value} (hN : Nat.blt d X.N = true) (hL : Lat w w') (hok : GOK X g' w') (hS : ∀ b, g.S b → g'.S b)
    (ho : ∀ b s q, s ≠ d → g.own b = some (s, q) → g'.own b = some (s, q)) (hh : ∀ s q, s ≠ d → g'.hdr (s, q) = g.hdr (s, q)) (hp : PRep X.P w' g' d p v) :
    InvG X (place fr d p) (a.put (some d) v) w' g' := by
  have hd : d < a.tmps.size := by rw [h.size]; simpa using hN
  refine ⟨by simpa [Act.put] using h.size, h.nodef, hok, fun s => ?_⟩
  by_cases hs : s = d
  · subst hs
    rw [place_same]
    simp only [Act.put]
    rw [getD_set_eq _ _ _ hd]; exact hp
  · rw [place_ne _ _ _ _ hs]
    simp only [Act.put]
    rw [getD_set_ne' _ _ _ _ (Ne.symm hs)]
    have hsl := h.slot s
    have keep : ∀ p' : PV, PRep X.P w g s p' (a.tmps.getD s undef) → (∀ s' q', (p' = .al s' q' ∨ ∃ e i k, p' = .addr e s' q' i k) → s' ≠ d) → PRep X.P w' g' s p' (a.tmps.getD s undef) := fun p' hp' hne =>
      hp'.keep (fun b hb => ⟨hS b hb, hL.block b (h.ok.S b hb).1⟩) (fun b q hq => ⟨ho b s q hs hq, hL.block b (h.ok.own b _ hq).2.1⟩) (fun q => hh s q hs) (fun s' q' he => hh s' q' (hne s' q' he))
    cases hf : fr s with
    | al s' q' =>
      show PRep X.P w' g' s (bif Nat.beq s' d then .junk else .al s' q') _
      cases hb : Nat.beq s' d with
      | true => trivial
      | false =>
        rw [hf] at hsl
        exact keep _ hsl (fun s'' q'' he => by
          rcases he with he | ⟨_, _, _, he⟩ <;> cases he
          intro e; rw [e, beq_self] at hb; cases hb)
    | addr e s' q' i k =>
      show PRep X.P w' g' s (bif Nat.beq s' d then .junk else .addr e s' q' i k) _
      cases hb : Nat.beq s' d with
      | true => trivial
      | false =>
        rw [hf] at hsl
        exact keep _ hsl (fun s'' q'' he => by
          rcases he with he | ⟨_, _, _, he⟩ <;> cases he
          intro e; rw [e, beq_self] at hb; cases hb)
    | _ =>
      rw [hf] at hsl
      exact keep _ hsl (fun s'' q'' he => by rcases he with he | ⟨_, _, _, he⟩ <;> cases he)

theorem lat_below {X : Ctx} {g : G} {w w' : World} (h : GOK X g w) (hL : Lat w w') : Below X.B0 X.w0 w' := h.bel.trans (hL.mono h.base)

def PV.resOK : PV → Bool
  | .t _ | .agg _ | .tup _ => true
  | _ => false
theorem PRep.moveRes {P : Program} {w w' : World} {g g' : G} {s s' : Nat} {p : PV} {v : Value} (hp : p.resOK = true) (h : PRep P w g s p v) (hS : ∀ b, g.S b → g'.S b ∧ w'.heap[b]? = w.heap[b]?)
    (ho : ∀ b q, g.own b = some (s, q) → g'.own b = some (s', q) ∧ w'.heap[b]? = w.heap[b]?) (hh : ∀ q, g'.hdr (s', q) = g.hdr (s, q)) : PRep P w' g' s' p v := by
  cases p with
  | t x => exact Rep.move h _ hS (fun b q hq => by simpa using ho b q (by simpa using hq)) (fun q => by simpa using hh q)
  | agg xs => exact RepAgg.move h _ hS (fun b q hq => by simpa using ho b q (by simpa using hq)) (fun q => by simpa using hh q)
  | tup rs =>
    obtain ⟨vs, h1, h2, h3⟩ := h
    refine ⟨vs, h1, h2, fun k r hr => ?_⟩
    obtain ⟨u, hu, hrr⟩ := h3 k r hr
    exact ⟨u, hu, hrr.move _ hS (fun b q hq => ho b _ hq) (fun q => hh _)⟩
  | _ => cases hp

/-! ### Contracts -/
def IRepR (w : World) (S : Nat → Prop) : R → Value → Prop
  | .one x, v => IRep w S x v
  | .agg xs, v => ∃ vs : Array Value, v = .agg vs ∧ vs.size = xs.length ∧ ∀ (k : Nat) (x : T), xs[k]? = some x → ∃ u, vs[k]? = some u ∧ IRep w S x u
def Post (P : Program) (w : World) (S : Nat → Prop) (r : PV) (e : Ending) (w' : World) : Prop :=
  ∃ v, e = .returned v ∧ Lat w w' ∧ ∃ g : G, (∀ b, g.S b → b < w'.heap.size ∧ (S b ∨ w.heap.size ≤ b)) ∧ (∀ b l, g.own b = some l → w.heap.size ≤ b ∧ b < w'.heap.size ∧ ¬ g.S b) ∧ PRep P w' g 0 r v
structure CallSpec (P : Program) (f : FuncId) (ds : List R) (r : PV) : Prop where
  fn : ∃ fn, P.funcs[f]? = some fn ∧ (fn.name == "runtime.NumGoroutine") = false ∧ fn.body.isNone = false
  run : ∀ (w : World) (S : Nat → Prop) (args : Array Value), (∀ b, S b → b < w.heap.size) → args.size = ds.length → (∀ (k : Nat) (d : R), ds[k]? = some d → ∃ u, args[k]? = some u ∧ IRepR w S d u) →
    Calls P f args w (Post P w S r)

def argOf (fr : Frame) (x : Operand) : R := match val fr x with
  | .t y => .one y
  | .agg ys => .agg ys
  | _ => .one .gone

theorem view_imm {t : Nat} {x y : T} (h : x.view t = .t y) : y.imm = true := by
  cases x <;> simp [T.view] at h <;> subst h <;> rfl
theorem val_imm {fr : Frame} {x : Operand} {y : T} (h : val fr x = .t y) : y.imm = true := by
  unfold val at h
  cases x with
  | tmp t =>
    simp only at h
    cases hf : fr t with
    | t z => rw [hf] at h; exact view_imm h
    | agg xs => rw [hf] at h; simp only at h; cases hb : xs.all T.imm <;> rw [hb] at h <;> cases h
    | _ => rw [hf] at h; cases h
  | const v =>
    simp only [ofConst] at h
    split at h <;> cases h <;> rfl
  | _ => cases h
theorem val_agg_imm {fr : Frame} {x : Operand} {ys : List T} (h : val fr x = .agg ys) : ys.all T.imm = true := by
  unfold val at h
  cases x with
  | tmp t =>
    simp only at h
    cases hf : fr t with
    | t z => rw [hf] at h; cases z <;> simp [T.view] at h
    | agg xs =>
      rw [hf] at h; simp only at h
      cases hb : xs.all T.imm with
      | false => rw [hb] at h; cases h
      | true => rw [hb] at h; simp only [cond_true, PV.agg.injEq] at h; rw [← h]; exact hb
    | _ => rw [hf] at h; cases h
  | const v =>
    simp only [ofConst] at h
    split at h <;> cases h
  | _ => cases h
theorem arg_rep {X : Ctx} {fr : Frame} {a : Act} {w : World} {g : G} (hi : InvG X fr a w g) (x : Operand) : IRepR w g.S (argOf fr x) (a.eval x) := by
  have hp := inv_val hi 0 x
  unfold argOf
  cases hv : val fr x with
  | t y =>
    rw [hv] at hp
    exact Rep.im' hp (val_imm hv)
  | agg ys =>
    rw [hv] at hp
    obtain ⟨vs, h1, h2, h3⟩ := hp
    refine ⟨vs, h1, h2, fun k x hx => ?_⟩
    obtain ⟨u, hu, hr⟩ := h3 k x hx
    exact ⟨u, hu, hr.im' (List.all_eq_true.1 (val_agg_imm hv) x (List.mem_of_getElem? hx))⟩
  | _ => exact .gone _

section
variable {X : Ctx} {ops : Array Oper} {rest : List (Oper × Bool)} {fr : Frame} {K : Frame → Prop} {nr : Bool}
variable {d : Nat} {x y : Operand} {t t' ty : TypeId} {ps : String} {af : Array Edge} {gd : Option (Nat × Bool)}

/-- An operation that changes the world, written into a slot. -/
theorem EvO.w {o : Oper} {p : PV} (hq : isQ o.op = false) (hw : wantF ops fr o.guard = some true)
    (hrun : ∀ (a : Act) (w : World) (g : G), InvG X fr a w g → o.wp X.P a w (fun a' w' => (nr = true → Lat w w') ∧ Inv X (place fr d p) a' w') (fun _ _ _ => False))
    (h : EvO X ops rest (place fr d p) K) : EvO X ops ((o, nr) :: rest) fr K := by
  refine ⟨fun a w ⟨g, hi⟩ => ?_⟩
  unfold LexL
  rw [if_neg (by rw [hq]; exact Bool.false_ne_true), if_pos (inv_wanted hi hw)]
  exact Oper.wp_mono (fun a' w' ⟨h1, h2⟩ => ⟨h1, h.run a' w' h2⟩) (hrun a w g hi)

theorem EvO.call {f : FuncId} {args : Array Operand} {ats : Array TypeId} {r : PV} (hs : CallSpec X.P f (args.toList.map (argOf fr)) r) (hr : r.resOK = true) (hN : Nat.blt d X.N = true) (hw : wantF ops fr gd = some true)
    (h : EvO X ops rest (place fr d r) K) : EvO X ops ((⟨some d, .call { callee := .value (.func f), args := args, argTypes := ats }, ty, ps, af, gd⟩, nr) :: rest) fr K :=
  EvO.w rfl hw (fun a w g hi => by
    obtain ⟨⟨fn, hf, hn, hb⟩, hc⟩ := hs
    have hrun : (execOp a.eval ⟨some d, .call { callee := .value (.func f), args := args, argTypes := ats }, ty, ps, af, gd⟩).run X.P w = .ok (.enter f (args.map a.eval)) w := by
      have hn' : ¬ fn.name = "runtime.NumGoroutine" := by simpa using hn
      have hb' : ¬ fn.body = none := fun e => by rw [e] at hb; cases hb
      simp [execOp, resolve, Deferred.ofValue, Act.eval, invoke, callFunc, hf, hn', hb']
    unfold Oper.wp
    rw [hrun]
    simp only [Oper.upon]
    refine Calls.mono (hc w g.S (args.map a.eval) (fun b hb => (hi.ok.S b hb).1) (by simp) (fun k dd hk => ?_)) fun e w' hP => ?_
    · rw [List.getElem?_map, Option.map_eq_some_iff] at hk
      obtain ⟨o, ho, rfl⟩ := hk
      exact ⟨a.eval o, by rw [Array.getElem?_map, ← Array.getElem?_toList, ho]; rfl, arg_rep hi o⟩
    · obtain ⟨v, rfl, hL, gc, hcS, hcO, hp⟩ := hP
      refine ⟨fun _ => hL, ?_⟩
      let g' : G := { S := fun b => g.S b ∨ (w.heap.size ≤ b ∧ gc.S b), own := fun b => if b < w.heap.size then g.own b else (gc.own b).map fun l => (d, l.2), hdr := fun l => if l.1 = d then gc.hdr (0, l.2) else g.hdr l }
      have hS' : ∀ b, gc.S b → g'.S b := fun b hb => by
        rcases (hcS b hb).2 with h | h
        · exact .inl h
        · exact .inr ⟨h, hb⟩
      refine ⟨g', inv_place hi hN hL ⟨lat_below hi.ok hL, Nat.le_trans hi.ok.base hL.size, fun b hb => ?_, fun b l hl => ?_⟩ (fun b hb => .inl hb) (fun b s q hs ho => ?_) (fun s q hs => by simp [g', hs]) ?_⟩
      · rcases hb with hb | ⟨h1, h2⟩
        · exact ⟨Nat.lt_of_lt_of_le (hi.ok.S b hb).1 hL.size, (hi.ok.S b hb).2⟩
        · exact ⟨(hcS b h2).1, .inr (Nat.le_trans hi.ok.base h1)⟩
      · simp only [g'] at hl ⊢
        split at hl
        · rename_i hlt
          obtain ⟨h1, h2, h3⟩ := hi.ok.own b l hl
          refine ⟨h1, Nat.lt_of_lt_of_le h2 hL.size, ?_⟩
          rintro (h | ⟨h, _⟩)
          · exact h3 h
          · omega
        · rename_i hge
          rw [Option.map_eq_some_iff] at hl
          obtain ⟨l', hl', _⟩ := hl
          obtain ⟨h1, h2, h3⟩ := hcO b l' hl'
          refine ⟨Nat.le_trans hi.ok.base h1, h2, ?_⟩
          rintro (h | ⟨_, h⟩)
          · have := (hi.ok.S b h).1; omega
          · exact h3 h
      · simp only [g']
        rw [if_pos (hi.ok.own b _ ho).2.1]; exact ho
      · refine PRep.moveRes (s := 0) hr hp (fun b hb => ⟨hS' b hb, rfl⟩) (fun b q hq => ⟨?_, rfl⟩) (fun q => by simp [g'])
        simp only [g']
        have := (hcO b _ hq).1
        rw [if_neg (by omega), hq]; rfl) h

/-! ### A new block of one's own -/
theorem lat_alloc (w : World) (o : Obj) : Lat w (w.alloc o) := (Below.refl _ _).alloc (Nat.le_refl _) o
theorem inv_alloc {a : Act} {w : World} {g : G} (hi : InvG X fr a w g) (hN : Nat.blt d X.N = true) (bx : Bool) (e : TypeId) (els : List (List T)) (cap : Nat) (cs : Array Value) (f : Nat → Nat → Value) {v : Value}
    (hv : v = if bx then .pointer (some ⟨w.heap.size, 0, none⟩) else .slice (some ⟨w.heap.size, 0, none⟩) els.length cap) (hc : els.length ≤ cap) (hm : cap ≤ maxLen) (hcs : cap * szOf X.P e = cs.size) (hs : 0 < szOf X.P e)
    (hsz : ∀ (i : Nat) (c : List T), els[i]? = some c → c.length = szOf X.P e) (hcell : ∀ (i : Nat) (c : List T) (k : Nat) (x : T), els[i]? = some c → c[k]? = some x → cs[i * szOf X.P e + k]? = some (f i k))
    (hrep : ∀ (i : Nat) (c : List T) (k : Nat) (x : T), els[i]? = some c → c[k]? = some x → IRep w g.S x (f i k)) :
    Inv X (place fr d (.t (.own bx e els))) (a.put (some d) v) (w.alloc (.cells cs e)) := by
  let g' : G := { S := g.S, own := fun b => if b = w.heap.size then some (d, []) else g.own b, hdr := fun l => if l = (d, []) then v else g.hdr l }
  have hL := lat_alloc w (.cells cs e)
  refine ⟨g', inv_place hi hN hL ⟨lat_below hi.ok hL, Nat.le_trans hi.ok.base hL.size, fun b hb => ⟨Nat.lt_of_lt_of_le (hi.ok.S b hb).1 hL.size, (hi.ok.S b hb).2⟩, fun b l hl => ?_⟩ (fun b hb => hb) (fun b s q hs ho => ?_) (fun s q hs => ?_) ?_⟩
  · simp only [g'] at hl ⊢
    split at hl
    · rename_i hb; subst hb
      exact ⟨hi.ok.base, by simp, fun h => by have := (hi.ok.S _ h).1; omega⟩
    · obtain ⟨h1, h2, h3⟩ := hi.ok.own b l hl
      exact ⟨h1, Nat.lt_of_lt_of_le h2 hL.size, h3⟩
  · simp only [g']
    rw [if_neg (by have := (hi.ok.own b _ ho).2.1; omega)]; exact ho
  · simp only [g']
    rw [if_neg (by intro e; cases e; exact hs rfl)]
  · refine .own (d, []) bx e els w.heap.size 0 els.length cap cs f v hv (by simp [g']) (by simp [g']) (heap_alloc_new w _) rfl hc hm (by simpa using hcs) hs hsz (fun i c k x h1 h2 => by rw [Nat.zero_add]; exact hcell i c k x h1 h2) (fun i c k x h1 h2 => ?_)
    exact .im _ _ _ ((hrep i c k x h1 h2).keep fun b hb => ⟨hb, hL.block b (hi.ok.S b hb).1⟩)

theorem irep_cells {w : World} {S : Nat → Prop} {x : T} {v : Value} (h : IRep w S x v) (hx : x ≠ .gone) : v.cells = #[v] := by
  cases h <;> first | rfl | exact absurd rfl hx

/-- Op.box of a struct. -/
theorem EvO.boxAgg {e : TypeId} {xs : List T} (hx : val fr x = .agg xs) (hs : szOf X.P e = xs.length) (hne0 : xs.isEmpty = false) (hN : Nat.blt d X.N = true) (hw : wantF ops fr gd = some true)
    (h : EvO X ops rest (place fr d (.t (.own true e [xs]))) K) : EvO X ops ((⟨some d, .box e x, ty, ps, af, gd⟩, nr) :: rest) fr K :=
  EvO.w rfl hw (fun a w g hi => by
    have hne : xs ≠ [] := by intro e0; rw [e0] at hne0; cases hne0
    have hp := arg_rep hi x
    unfold argOf at hp
    rw [hx] at hp
    obtain ⟨vs, hv, hsz, hr⟩ := hp
    have hrun : (execOp a.eval ⟨some d, .box e x, ty, ps, af, gd⟩).run X.P w = .ok (.value (.pointer (some ⟨w.heap.size, 0, none⟩))) (w.alloc (.cells vs e)) := by
      simp only [execOp, Instr.box, newVar, newRow, hv, Value.cells, Sem.run_bind, run_newObj_alloc, Sem.run_pure, Result.andThen_ok]
    unfold Oper.wp
    rw [hrun]
    refine ⟨fun _ => lat_alloc _ _, inv_alloc hi hN true e [xs] 1 vs (fun _ k => vs.getD k undef) rfl (by simp) (by simp [maxLen]) (by rw [Nat.one_mul, hs, hsz]) (by rw [hs]; exact List.length_pos_iff.2 hne) ?_ ?_ ?_⟩
    · intro i c hc
      cases i with
      | zero => simp at hc; rw [← hc, hs]
      | succ i => simp at hc
    · intro i c k q hc hq
      cases i with
      | succ i => simp at hc
      | zero =>
        simp at hc; subst hc
        obtain ⟨u, hu, _⟩ := hr k q hq
        rw [Nat.zero_mul, Nat.zero_add, hu, Array.getD_eq_getD_getElem?, hu]; rfl
    · intro i c k q hc hq
      cases i with
      | succ i => simp at hc
      | zero =>
        simp at hc; subst hc
        obtain ⟨u, hu, hu'⟩ := hr k q hq
        rw [Array.getD_eq_getD_getElem?, hu]; exact hu') h
/-- Op.box of one cell. -/
theorem EvO.boxOne {e : TypeId} {q : T} (hx : val fr x = .t q) (hg : q ≠ .gone) (hs : szOf X.P e = 1) (hN : Nat.blt d X.N = true) (hw : wantF ops fr gd = some true)
    (h : EvO X ops rest (place fr d (.t (.own true e [[q]]))) K) : EvO X ops ((⟨some d, .box e x, ty, ps, af, gd⟩, nr) :: rest) fr K :=
  EvO.w rfl hw (fun a w g hi => by
    have hp := arg_rep hi x
    unfold argOf at hp
    rw [hx] at hp
    have hp : IRep w g.S q (a.eval x) := hp
    have hc := irep_cells hp hg
    have hrun : (execOp a.eval ⟨some d, .box e x, ty, ps, af, gd⟩).run X.P w = .ok (.value (.pointer (some ⟨w.heap.size, 0, none⟩))) (w.alloc (.cells #[a.eval x] e)) := by
      simp only [execOp, Instr.box, newVar, newRow, hc, Sem.run_bind, run_newObj_alloc, Sem.run_pure, Result.andThen_ok]
    unfold Oper.wp
    rw [hrun]
    refine ⟨fun _ => lat_alloc _ _, inv_alloc hi hN true e [[q]] 1 #[a.eval x] (fun _ _ => a.eval x) rfl (by simp) (by simp [maxLen]) (by rw [Nat.one_mul, hs]; rfl) (by rw [hs]; exact Nat.one_pos) ?_ ?_ ?_⟩
    · intro i c hc
      cases i with
      | zero => simp at hc; rw [← hc, hs]; rfl
      | succ i => simp at hc
    · intro i c k q' hc hq
      cases i with
      | succ i => simp at hc
      | zero =>
        simp at hc; subst hc
        cases k with
        | zero => simp
        | succ k => simp at hq
    · intro i c k q' hc hq
      cases i with
      | succ i => simp at hc
      | zero =>
        simp at hc; subst hc
        cases k with
        | zero => simp at hq; subst hq; exact hp
        | succ k => simp at hq) h
end

/-! ### From the body to the contract -/
def argFrame : List R → Frame
  | ds, i => match ds, i with
    | [], _ => .junk
    | .one x :: _, 0 => .t x
    | .agg xs :: _, 0 => .agg xs
    | _ :: ds, i + 1 => argFrame ds i
def retK (Res : Frame → Prop) : Exit → Frame → Prop
  | .normal, fr => Res fr
  | .ret, fr => Res fr
  | _, _ => False
theorem argFrame_rep {P : Program} {w : World} {g : G} : ∀ (ds : List R) (args : List Value) (s i : Nat), (∀ (k : Nat) (d : R), ds[k]? = some d → ∃ u, args[k]? = some u ∧ IRepR w g.S d u) → PRep P w g s (argFrame ds i) (args.getD i undef)
  | [], _, _, _, _ => by unfold argFrame; trivial
  | .one x :: ds, args, s, 0, h => by
    obtain ⟨u, hu, hr⟩ := h 0 (.one x) rfl
    have : args.getD 0 undef = u := by simp [List.getD, hu]
    rw [this]
    exact .im _ _ _ hr
  | .agg xs :: ds, args, s, 0, h => by
    obtain ⟨u, hu, hr⟩ := h 0 (.agg xs) rfl
    have : args.getD 0 undef = u := by simp [List.getD, hu]
    rw [this]
    obtain ⟨vs, h1, h2, h3⟩ := hr
    refine ⟨vs, h1, h2, fun k x hx => ?_⟩
    obtain ⟨u, hu, hr⟩ := h3 k x hx
    exact ⟨u, hu, .im _ _ _ hr⟩
  | d :: ds, [], s, i + 1, h => by
    obtain ⟨u, hu, _⟩ := h 0 d rfl
    simp at hu
  | d :: ds, v :: args, s, i + 1, h => by
    have := argFrame_rep (P := P) ds args s i (fun k d' hk => by simpa using h (k + 1) d' (by simpa using hk))
    have e1 : argFrame (d :: ds) (i + 1) = argFrame ds i := by cases d <;> rfl
    have e2 : (v :: args).getD (i + 1) undef = args.getD i undef := rfl
    rw [e1, e2]; exact this

/-- The results that a frame gives: from one slot. -/
def Res1 (r : PV) (t : Nat) (fr : Frame) : Prop := fr t = r
/-- From a box. -/
def ResBox (c : List T) (t : Nat) (fr : Frame) : Prop := ∃ e, fr t = .t (.own true e [c])

theorem enter_frame (args : Array Value) (N i : Nat) : (args ++ Array.replicate (N - args.size) undef).getD i undef = args.toList.getD i undef := by
  rw [Array.getD_eq_getD_getElem?, Array.getElem?_append]
  split
  · rename_i h; simp [List.getD]
  · rename_i h
    have h1 : args.toList.getD i undef = undef := by simp [List.getD, Array.getElem?_eq_none (Nat.le_of_not_lt h)]
    rw [h1, Array.getElem?_replicate]
    split <;> rfl

theorem spec_of_ev {P : Program} {f : FuncId} {fn : Func} {c : Code} {ds : List R} {r : PV} {N : Nat} (Res : Frame → Prop) (pm : Nat → List Nat) (hf : P.funcs[f]? = some fn) (hn : (fn.name == "runtime.NumGoroutine") = false) (hb : fn.body = some c)
    (hN : fn.ntmps = N) (hd : ds.length ≤ N)
    (hres : ∀ (X : Ctx) (fr : Frame) (a : Act) (w : World), X.P = P → Inv X fr a w → Res fr → ∃ v, (results fn a.tmps).run P w = .ok v w ∧
      ∃ g : G, (∀ b, g.S b → b < w.heap.size ∧ (X.S0 b ∨ X.B0 ≤ b)) ∧ (∀ b l, g.own b = some l → X.B0 ≤ b ∧ b < w.heap.size ∧ ¬ g.S b) ∧ PRep P w g 0 r v)
    (h : ∀ (B0 : Nat) (w0 : World) (S0 : Nat → Prop), Ev ⟨P, N, B0, w0, S0, pm⟩ c (argFrame ds) (retK Res)) : CallSpec P f ds r := by
  refine ⟨⟨fn, hf, hn, by rw [hb]; rfl⟩, fun w S args hS hsz hargs => ?_⟩
  refine calls_of_wp hf hb ?_
  let X : Ctx := ⟨P, N, w.heap.size, w, S, pm⟩
  have hi : Inv X (argFrame ds) { tmps := args ++ Array.replicate (fn.ntmps - args.size) undef, defers := [] } w := by
    refine ⟨{ S := S, own := fun _ => none, hdr := fun _ => undef }, ⟨?_, rfl, ⟨Below.refl _ _, Nat.le_refl _, fun b hb => ⟨hS b hb, .inl hb⟩, fun b l hl => by cases hl⟩, fun s => ?_⟩⟩
    · show (args ++ Array.replicate (fn.ntmps - args.size) undef).size = N
      rw [Array.size_append, Array.size_replicate, hN]
      omega
    · show PRep P w _ s (argFrame ds s) ((args ++ Array.replicate (fn.ntmps - args.size) undef).getD s undef)
      rw [enter_frame]
      exact argFrame_rep ds args.toList s s (fun k d hk => by simpa using hargs k d hk)
  refine Code.wp_mono (fun e a' w' ⟨fr', hi', hk⟩ => ?_) ((h w.heap.size w S).run _ w hi)
  have fin : Res fr' → a'.defers = [] ∧ ∃ v, (results fn a'.tmps).run P w' = .ok v w' ∧ Post P w S r (.returned v) w' := fun hR => by
    obtain ⟨v, h1, g, h2, h3, h4⟩ := hres X fr' a' w' rfl hi' hR
    obtain ⟨g', hg'⟩ := hi'
    exact ⟨hg'.nodef, v, h1, v, rfl, hg'.ok.bel, g, h2, h3, h4⟩
  cases e with
  | normal => exact fin hk
  | ret => exact fin hk
  | _ => exact (hk : False).elim

/-- One result, out of a slot. -/
theorem spec1 {P : Program} {f : FuncId} {fn : Func} {c : Code} {ds : List R} {r : PV} {N t : Nat} (pm : Nat → List Nat) (hf : P.funcs[f]? = some fn) (hn : (fn.name == "runtime.NumGoroutine") = false) (hb : fn.body = some c)
    (hN : fn.ntmps = N) (hd : Nat.ble ds.length N = true) (hres : fn.results = #[.tmp t]) (hr : r.resOK = true)
    (h : ∀ (B0 : Nat) (w0 : World) (S0 : Nat → Prop), Ev ⟨P, N, B0, w0, S0, pm⟩ c (argFrame ds) (retK (Res1 r t))) : CallSpec P f ds r :=
  spec_of_ev (Res1 r t) pm hf hn hb hN (by simpa using hd) (fun X fr a w hX ⟨g, hi⟩ hR => by
    refine ⟨a.tmps.getD t undef, by simp [results, hres], ?_⟩
    have hs := hi.slot t
    rw [show fr t = r from hR, hX] at hs
    let g' : G := { S := g.S, own := fun b => match g.own b with | some l => if l.1 = t then some (0, l.2) else none | none => none, hdr := fun l => g.hdr (t, l.2) }
    refine ⟨g', hi.ok.S, fun b l hl => ?_, PRep.moveRes hr hs (fun b hb => ⟨hb, rfl⟩) (fun b q hq => ⟨by simp [g', hq], rfl⟩) (fun q => rfl)⟩
    simp only [g'] at hl
    cases ho : g.own b with
    | none => rw [ho] at hl; cases hl
    | some l' => exact hi.ok.own b l' ho) h
/-- One result, out of a box. -/
theorem spec1box {P : Program} {f : FuncId} {fn : Func} {c : Code} {ds : List R} {cs : List T} {N t : Nat} {ty : TypeId} (pm : Nat → List Nat) (hf : P.funcs[f]? = some fn) (hn : (fn.name == "runtime.NumGoroutine") = false) (hb : fn.body = some c)
    (hN : fn.ntmps = N) (hd : Nat.ble ds.length N = true) (hres : fn.results = #[.cell t ty]) (hty : tyOf P ty = some (true, cs.length)) (hne0 : cs.isEmpty = false)
    (h : ∀ (B0 : Nat) (w0 : World) (S0 : Nat → Prop), Ev ⟨P, N, B0, w0, S0, pm⟩ c (argFrame ds) (retK (ResBox cs t))) : CallSpec P f ds (.agg cs) :=
  spec_of_ev (ResBox cs t) pm hf hn hb hN (by simpa using hd) (fun X fr a w hX ⟨g, hi⟩ hR => by
    have hne : cs ≠ [] := by intro e0; rw [e0] at hne0; cases hne0
    obtain ⟨e, hfr⟩ := hR
    obtain ⟨b, base, n', cap, cc, ff, h1, h2, _, h4, _, _, _, _, _, _, h5, h6⟩ := own_row hi hfr (by simp)
    simp only [if_true] at h1
    let vs := (List.range cs.length).map (ff 0)
    have hlen : vs.length = cs.length := by simp [vs]
    have hcell : ∀ (j : Nat) (v : Value), vs[j]? = some v → w.cell? ((⟨b, base, none⟩ : Addr).add j) = some v := fun j v hj => by
      obtain ⟨hj1, rfl⟩ := list_of_fun (ff 0) j v hj
      have hc := h5 0 cs j _ rfl (List.getElem?_eq_getElem hj1)
      simp only [Nat.zero_mul, Nat.zero_add] at hc
      rw [addr_add, cell_of_row w b _ cc e (0, 0) h4]; exact hc
    have hr := run_load_agg (P := P) (w := w) (t := ty) (cs := vs) (by rw [hlen]; exact hty) (by intro e0; rw [e0] at hlen; exact hne (List.eq_nil_of_length_eq_zero hlen.symm)) (a := ⟨b, base, none⟩) hcell
    have h3 : a.tmps[t]?.getD undef = Value.pointer (some ⟨b, base, none⟩) := by rw [← Array.getD_eq_getD_getElem?, h2, h1]
    refine ⟨.agg vs.toArray, by simp [results, hres, h3, asAddr, hr], ?_⟩
    let g' : G := { S := g.S, own := fun b => match g.own b with | some l => if l.1 = t then some (0, l.2) else none | none => none, hdr := fun l => g.hdr (t, l.2) }
    refine ⟨g', hi.ok.S, fun b l hl => ?_, vs.toArray, rfl, by simp [vs], fun k q hq => ?_⟩
    · simp only [g'] at hl
      cases ho : g.own b with
      | none => rw [ho] at hl; cases hl
      | some l' => exact hi.ok.own b l' ho
    · have hk : k < cs.length := (List.getElem?_eq_some_iff.1 hq).1
      have hrep := h6 0 cs k q rfl hq
      rw [hX] at hrep
      exact ⟨ff 0 k, by simp [vs, hk], hrep.move _ (fun b hb => ⟨hb, rfl⟩) (fun b q' hq' => ⟨by simp only [g', hq']; simp, rfl⟩) (fun q' => rfl)⟩) h
theorem pvb {p q : Bool} (h : p = q) : PV.t (.bool p) = .t (.bool q) := by rw [h]
theorem pvi {p q : Int} (h : p = q) : PV.t (.int p) = .t (.int q) := by rw [h]
end Go.Ev
