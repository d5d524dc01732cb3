/-
  Own work. The operations that only compute: each does on the machine what its translation says.
-/
import Derived.Test.YtamaghlnjchhbaaPuF
namespace Go.Pu
open Go Go.RowKit
set_option linter.unusedVariables false

theorem ok_bind {α β : Type} {x : M α} {f : α → M β} {y : β} (h : (x >>= f) = .ok y) : ∃ z, x = .ok z ∧ f z = .ok y := by
  cases x with
  | error e => cases h
  | ok z => exact ⟨z, rfl, h⟩
def Ex.den1 (Γ : List FE) (ρ : Env) (e : Ex) : Option V := e.den Γ ρ some
theorem Ex.den_eq (Γ : List FE) {ω : Type} (ρ : Env) (K : V → Option ω) (e : Ex) : e.den Γ ρ K = (e.den1 Γ ρ).bind K := by
  unfold Ex.den1
  cases e <;> simp only [Ex.den] <;> first
    | rfl
    | (rw [Option.bind_assoc]; rfl)
    | (split <;> first | rfl | (rw [Option.bind_assoc]; rfl))
def evalB (Γ : List FE) : List Ex → Env → Option Env
  | [], ρ => some ρ
  | e :: es, ρ => (e.den1 Γ ρ).bind fun v => evalB Γ es (ρ ++ [v])
theorem evalB_one {Γ : List FE} {e : Ex} {ρ ρ' : Env} (h : evalB Γ [e] ρ = some ρ') : ∃ v, e.den1 Γ ρ = some v ∧ ρ' = ρ ++ [v] := by
  simp only [evalB, Option.bind_eq_some_iff, Option.some.injEq] at h
  obtain ⟨v, h1, h2⟩ := h
  exact ⟨v, h1, h2.symm⟩
theorem evalB_cons {Γ : List FE} {e : Ex} {es : List Ex} {ρ ρ' : Env} (h : evalB Γ (e :: es) ρ = some ρ') : ∃ v, e.den1 Γ ρ = some v ∧ evalB Γ es (ρ ++ [v]) = some ρ' := by
  simpa only [evalB, Option.bind_eq_some_iff] using h
theorem evalB_nil {Γ : List FE} {ρ ρ' : Env} (h : evalB Γ [] ρ = some ρ') : ρ' = ρ := by
  simpa only [evalB, Option.some.injEq, eq_comm] using h

section
variable {X : Ctx} {D : Nat → Prop} {Γ : List FE} {st : St} {ρ : Env} {a : Act} {w : World} {g : G}
/-- A step that only computes. -/
def QStep (X : Ctx) (D : Nat → Prop) (Γ : List FE) (st : St) (o : Oper) (s : Step) : Prop :=
  ∀ ρ ρ' a w g, TInv X D st ρ a w g → st.wf = true → evalB Γ (s.es.map (·.1)) ρ = some ρ' →
    ∃ v, (∀ w', Cls D o w w' → (execOp a.eval o).run X.P w' = .ok (.value v) w') ∧ ∃ g', TInv X D s.st ρ' (a.put o.dst v) w g'

theorem val_rep (h : TInv X D st ρ a w g) {o : Operand} {sv : SV} (hv : st.val o = .ok sv) : PRep X.P w g (sv.enc ρ) (a.eval o) := by
  cases o with
  | tmp t =>
    simp only [St.val, Except.ok.injEq] at hv
    subst hv
    exact h.inv.slot t
  | const c =>
    simp only [St.val] at hv
    unfold constV at hv
    simp only [Act.eval]
    split at hv <;> simp only [Except.ok.injEq, reduceCtorEq] at hv <;> subst hv
    · simp only [SV.enc, SC.enc, At.get, V.c]; exact .int _ _
    · simp only [SV.enc, SC.enc, At.get, V.c]; exact .bool _
    · simp only [SV.enc, SC.enc]; exact .nil
    · simp only [SV.enc, SC.enc]; exact .gone _
    · simp only [SV.enc, SC.enc]; exact .gone _
    · simp only [SV.enc, SC.enc]; exact .gone _
  | func f =>
    simp only [St.val, Except.ok.injEq] at hv
    subst hv
    simp only [SV.enc, SC.enc, encL]
    exact .fn f [] #[] rfl (fun k x hx => by simp at hx)
  | global n => simp [St.val] at hv
theorem ty_ok {x : At} {t : Ty} (h : st.ty x = .ok t) : x.ty st.ts = some t := by
  unfold St.ty at h
  split at h
  · rename_i t' ht; simp only [Except.ok.injEq] at h; rw [ht, h]
  · cases h
theorem ty_get (h : TInv X D st ρ a w g) {x : At} {t : Ty} (ht : st.ty x = .ok t) : (x.get ρ).t = t := At.ty_get h.typ (ty_ok ht)
theorem int_get (h : TInv X D st ρ a w g) {x : At} {k : IntKind} (ht : st.ty x = .ok (.int k)) : x.get ρ = ⟨.int k, (x.get ρ).int⟩ := V.int_of (ty_get h ht)
theorem bool_get (h : TInv X D st ρ a w g) {x : At} (ht : st.ty x = .ok .bool) : x.get ρ = ⟨.bool, (x.get ρ).bool⟩ := V.bool_of (ty_get h ht)
theorem crep_int {k : IntKind} {z : Int} {v : Value} (h : CRep w g (.int k z) v) : v = .int k z := by cases h; rfl
theorem crep_bool {b : Bool} {v : Value} (h : CRep w g (.bool b) v) : v = .bool b := by cases h; rfl
theorem val_int (h : TInv X D st ρ a w g) {o : Operand} {x : At} {k : IntKind} (hv : st.val o = .ok (.c (.v x))) (ht : st.ty x = .ok (.int k)) : a.eval o = .int k (x.get ρ).int := by
  have := val_rep h hv
  simp only [SV.enc, SC.enc] at this
  rw [int_get h ht] at this
  exact crep_int this
theorem val_bool (h : TInv X D st ρ a w g) {o : Operand} {x : At} (hv : st.val o = .ok (.c (.v x))) (ht : st.ty x = .ok .bool) : a.eval o = .bool (x.get ρ).bool := by
  have := val_rep h hv
  simp only [SV.enc, SC.enc] at this
  rw [bool_get h ht] at this
  exact crep_bool this
theorem atom_ok {o : Operand} {x : At} (h : st.atom o = .ok x) : st.val o = .ok (.c (.v x)) := by
  unfold St.atom at h
  obtain ⟨v, hv, h⟩ := ok_bind h
  split at h
  · simp only [Except.ok.injEq] at h; subst h; exact hv
  · cases h
theorem intOf_ok {o : Operand} {k : IntKind} {x : At} (h : st.intOf o = .ok (k, x)) : st.val o = .ok (.c (.v x)) ∧ st.ty x = .ok (.int k) := by
  unfold St.intOf at h
  obtain ⟨y, hy, h⟩ := ok_bind h
  obtain ⟨t, ht, h⟩ := ok_bind h
  split at h
  · simp only [Except.ok.injEq, Prod.mk.injEq] at h
    obtain ⟨rfl, rfl⟩ := h
    exact ⟨atom_ok hy, ht⟩
  · cases h
theorem boolOf_ok {o : Operand} {x : At} (h : st.boolOf o = .ok x) : st.val o = .ok (.c (.v x)) ∧ st.ty x = .ok .bool := by
  unfold St.boolOf at h
  obtain ⟨y, hy, h⟩ := ok_bind h
  obtain ⟨t, ht, h⟩ := ok_bind h
  split at h
  · simp only [Except.ok.injEq] at h
    subst h
    exact ⟨atom_ok hy, ht⟩
  · cases h

/-- A step that puts a value, without bindings. -/
theorem q_put {o : Oper} {d : Nat} {sv : SV} (hd : o.dst = some d) (hN : d < X.N)
    (h : ∀ ρ a w g, TInv X D st ρ a w g → ∃ v, (∀ w', Cls D o w w' → (execOp a.eval o).run X.P w' = .ok (.value v) w') ∧ PRep X.P w g (sv.enc ρ) v) :
    QStep X D Γ st o ⟨[], st.put d sv⟩ := fun ρ ρ' a w g hi _ he => by
  have := evalB_nil he
  subst this
  obtain ⟨v, h1, h2⟩ := h ρ' a w g hi
  refine ⟨v, h1, g, ?_⟩
  rw [hd]
  exact hi.put hN h2
theorem ref_get {ρ : Env} {v : V} (hl : ρ.length = st.ts.length) : (st.ref).get (ρ ++ [v]) = v := by
  unfold St.ref
  simp only [At.get, Ref.get, V.proj]
  rw [← hl]
  simp [List.getD]
/-- A step that binds one expression and puts what comes of it. -/
theorem q_bind {o : Oper} {d : Nat} {e : Ex} {t : Ty} {sv : SV} (hd : o.dst = some d) (hN : d < X.N)
    (h : ∀ ρ a w g v', TInv X D st ρ a w g → e.den1 Γ ρ = some v' → v'.t = t ∧ ∃ v, (∀ w', Cls D o w w' → (execOp a.eval o).run X.P w' = .ok (.value v) w') ∧ (TInv X D (st.bind t) (ρ ++ [v']) a w g → st.ref.get (ρ ++ [v']) = v' → PRep X.P w g (sv.enc (ρ ++ [v'])) v)) :
    QStep X D Γ st o ⟨[(e, t)], (st.bind t).put d sv⟩ := fun ρ ρ' a w g hi hw he => by
  obtain ⟨v', hv', rfl⟩ := evalB_one he
  obtain ⟨ht, v, h1, h2⟩ := h ρ a w g v' hi hv'
  refine ⟨v, h1, g, ?_⟩
  rw [hd]
  have hg := hi.grow hw [v']
  simp only [List.map_cons, List.map_nil, ht] at hg
  exact TInv.put hg hN (h2 hg (ref_get hi.len))
theorem q_step1 {o : Oper} {d : Nat} {e : Ex} {t : Ty} (hd : o.dst = some d) (hN : d < X.N)
    (h : ∀ ρ a w g v', TInv X D st ρ a w g → e.den1 Γ ρ = some v' → v'.t = t ∧ ∃ v, (∀ w', Cls D o w w' → (execOp a.eval o).run X.P w' = .ok (.value v) w') ∧ CRep w g v'.c v) :
    QStep X D Γ st o (step1 st d e t (.c ∘ .v)) :=
  q_bind hd hN fun ρ a w g v' hi hv' => by
    obtain ⟨ht, v, h1, h2⟩ := h ρ a w g v' hi hv'
    refine ⟨ht, v, h1, fun _ hr => ?_⟩
    simp only [Function.comp, SV.enc, SC.enc, hr]
    exact h2

variable {d : Nat} {x y : Operand} {t t' ty : TypeId} {ps : String} {af : Array Edge} {gd : Option (Nat × Bool)} {s : Step}
theorem move_ok (hN : d < X.N) (h : stepMove st d x = .ok s) : QStep X D Γ st ⟨some d, .move x, ty, ps, af, gd⟩ s := by
  unfold stepMove at h
  obtain ⟨v, hv, h⟩ := ok_bind h
  simp only [Except.ok.injEq] at h
  subst h
  exact q_put rfl hN fun ρ a w g hi => ⟨_, fun _ _ => rfl, val_rep hi hv⟩
theorem pick_ok {c : Operand} (hN : d < X.N) (h : stepPick st d c x y = .ok s) : QStep X D Γ st ⟨some d, .pick c x y, ty, ps, af, gd⟩ s := by
  unfold stepPick at h
  obtain ⟨v, hv, h⟩ := ok_bind h
  split at h
  · rename_i b
    obtain ⟨u, hu, h⟩ := ok_bind h
    simp only [Except.ok.injEq] at h
    subst h
    refine q_put rfl hN fun ρ a w g hi => ?_
    have hb : a.eval c = .bool b := by
      have := val_rep hi hv
      simp only [SV.enc, SC.enc, At.get, V.c] at this
      exact crep_bool this
    refine ⟨_, fun w' _ => ?_, val_rep hi hu⟩
    simp only [execOp, hb]
    cases b <;> rfl
  · cases h

/-! ### Integers and bools -/
theorem run_bin {P : Program} {w : World} {op : BinOp} {k k' : IntKind} {m n : Int} {v : Value} (ρ : Operand → Value) (hx : ρ x = .int k m) (hy : ρ y = .int k' n) (h : (Go.binOp op t (.int k m) (.int k' n)).run P w = .ok v w) :
    (execOp ρ ⟨some d, .binOp op t x y t', ty, ps, af, gd⟩).run P w = .ok (.value v) w := by
  simp only [execOp, hx, hy]
  have e : eqGuard op t x y (.int k m) (.int k' n) = pure () := by
    unfold eqGuard; split <;> rfl
  rw [e]
  simp only [Sem.run_bind, Sem.run_pure, Result.andThen_ok, h]
theorem binA_run {P : Program} {w : World} {op : BinOp} {b : BinA} {k : IntKind} {m n : Int} (h : binA op = some b) : (Go.binOp op t (.int k m) (.int k n)).run P w = .ok (.int k (b.den k m n)) w := by
  cases op <;> simp [binA] at h <;> subst h <;> simp [Go.binOp, Op.intArith, Op.intBits, BinA.den, wrap, gand, gor, gxor]
theorem ne_dec (m n : Int) : (m != n) = decide (m ≠ n) := by by_cases h : m = n <;> simp [h]
theorem cmpA_run {P : Program} {w : World} {op : BinOp} {c : CmpA} {k : IntKind} {m n : Int} (h : cmpA op = some c) : (Go.binOp op t (.int k m) (.int k n)).run P w = .ok (.bool (c.den m n)) w := by
  cases op <;> simp [cmpA] at h <;> subst h <;> simp [Go.binOp, Op.intCmp, CmpA.den, ne_dec] <;> rfl
theorem binInt_ok {op : BinOp} {k k' : IntKind} {m n : At} (hN : d < X.N) (hx : st.val x = .ok (.c (.v m))) (hy : st.val y = .ok (.c (.v n))) (hm : st.ty m = .ok (.int k)) (hn : st.ty n = .ok (.int k')) (h : stepBinInt st d op k k' m n = .ok s) :
    QStep X D Γ st ⟨some d, .binOp op t x y t', ty, ps, af, gd⟩ s := by
  have shiftOk : ∀ (l : Bool), op = (if l then .shl else .shr) → s = step1 st d (.shift l k m n) (.int k) (.c ∘ .v) → QStep X D Γ st ⟨some d, .binOp op t x y t', ty, ps, af, gd⟩ s := fun l ho hs => by
    subst hs
    refine q_step1 rfl hN fun ρ a w g v' hi hv' => ?_
    simp only [Ex.den1, Ex.den, gshift, Option.bind_eq_some_iff] at hv'
    obtain ⟨z, hz, hv'⟩ := hv'
    split at hz
    · rename_i hb
      simp only [Option.some.injEq] at hz hv'
      subst hv'
      refine ⟨rfl, .int k z, fun w' _ => run_bin _ (val_int hi hx hm) (val_int hi hy hn) ?_, .int k z⟩
      have h1 : ¬ (n.get ρ).int < 0 := by omega
      have h2 : min (n.get ρ).int.toNat k.bits = (n.get ρ).int.toNat := by omega
      subst ho
      cases l <;> simp [Go.binOp, Op.shift, h1, h2, ← hz, wrap]
    · cases hz
  unfold stepBinInt at h
  split at h
  · simp only [Except.ok.injEq] at h; exact shiftOk true rfl h.symm
  · simp only [Except.ok.injEq] at h; exact shiftOk false rfl h.symm
  · split at h
    · cases h
    · rename_i _ _ hk
      have hk : k = k' := Decidable.of_not_not hk
      subst hk
      split at h
      · rename_i b hb
        simp only [Except.ok.injEq] at h
        subst h
        refine q_step1 rfl hN fun ρ a w g v' hi hv' => ?_
        simp only [Ex.den1, Ex.den, Option.some.injEq] at hv'
        subst hv'
        exact ⟨rfl, _, fun w' _ => run_bin _ (val_int hi hx hm) (val_int hi hy hn) (binA_run hb), .int _ _⟩
      · split at h
        · rename_i c hc
          simp only [Except.ok.injEq] at h
          subst h
          refine q_step1 rfl hN fun ρ a w g v' hi hv' => ?_
          simp only [Ex.den1, Ex.den, Option.some.injEq] at hv'
          subst hv'
          exact ⟨rfl, _, fun w' _ => run_bin _ (val_int hi hx hm) (val_int hi hy hn) (cmpA_run hc), .bool _⟩
        · split at h
          · simp only [Except.ok.injEq] at h
            subst h
            refine q_step1 rfl hN fun ρ a w g v' hi hv' => ?_
            simp only [Ex.den1, Ex.den, gdiv, Option.bind_eq_some_iff] at hv'
            obtain ⟨z, hz, hv'⟩ := hv'
            split at hz
            · cases hz
            · rename_i h0
              simp only [Option.some.injEq] at hz hv'
              subst hv'
              refine ⟨rfl, .int k z, fun w' _ => run_bin _ (val_int hi hx hm) (val_int hi hy hn) ?_, .int k z⟩
              simp [Go.binOp, Op.intDiv, h0, ← hz, wrap]
          · simp only [Except.ok.injEq] at h
            subst h
            refine q_step1 rfl hN fun ρ a w g v' hi hv' => ?_
            simp only [Ex.den1, Ex.den, grem, Option.bind_eq_some_iff] at hv'
            obtain ⟨z, hz, hv'⟩ := hv'
            split at hz
            · cases hz
            · rename_i h0
              simp only [Option.some.injEq] at hz hv'
              subst hv'
              refine ⟨rfl, .int k z, fun w' _ => run_bin _ (val_int hi hx hm) (val_int hi hy hn) ?_, .int k z⟩
              simp [Go.binOp, Op.intDiv, h0, ← hz]
          · cases h
theorem run_equalIn_bool {P : Program} {w : World} {t : TypeId} (n : Nat) (a b : Bool) (h : P.underlying t = some .bool) : (Op.equalIn (n + 1) t (.bool a) (.bool b)).run P w = .ok (a == b) w := by
  simp [Op.equalIn, run_underlying h]
theorem run_neq_bool {P : Program} {w : World} {t : TypeId} (a b : Bool) (h : P.underlying t = some .bool) : (Go.binOp .neq t (.bool a) (.bool b)).run P w = .ok (.bool (true ^^ (a == b))) w := by
  simp only [Go.binOp]
  simp [Op.equal, Op.maxDepth, run_equalIn_bool 9999 a b h]
theorem run_eql_bool {P : Program} {w : World} {t : TypeId} (a b : Bool) (h : P.underlying t = some .bool) : (Go.binOp .eql t (.bool a) (.bool b)).run P w = .ok (.bool (false ^^ (a == b))) w := by
  simp only [Go.binOp]
  simp [Op.equal, Op.maxDepth, run_equalIn_bool 9999 a b h]
theorem run_bin_bool {P : Program} {w : World} (op : BinOp) (k k' : Bool) (v : Value) (h : (Go.binOp op t (.bool k) (.bool k')).run P w = .ok v w) (ρ : Operand → Value) (hx : ρ x = .bool k) (hy : ρ y = .bool k') :
    (execOp ρ ⟨some d, .binOp op t x y t', ty, ps, af, gd⟩).run P w = .ok (.value v) w := by
  simp only [execOp, hx, hy]
  have e : eqGuard op t x y (.bool k) (.bool k') = pure () := by
    unfold eqGuard; split <;> rfl
  rw [e]
  simp only [Sem.run_bind, Sem.run_pure, Result.andThen_ok, h]
theorem binBool_ok {op : BinOp} {m n : At} (hN : d < X.N) (hu : X.P.underlying t = some .bool) (hx : st.val x = .ok (.c (.v m))) (hy : st.val y = .ok (.c (.v n))) (hm : st.ty m = .ok .bool) (hn : st.ty n = .ok .bool) (h : stepBinBool st d op m n = .ok s) :
    QStep X D Γ st ⟨some d, .binOp op t x y t', ty, ps, af, gd⟩ s := by
  unfold stepBinBool at h
  split at h
  · simp only [Except.ok.injEq] at h
    subst h
    refine q_step1 rfl hN fun ρ a w g v' hi hv' => ?_
    simp only [Ex.den1, Ex.den, Option.some.injEq] at hv'
    subst hv'
    exact ⟨rfl, _, fun w' _ => run_bin_bool _ _ _ _ (run_eql_bool _ _ hu) _ (val_bool hi hx hm) (val_bool hi hy hn), .bool _⟩
  · simp only [Except.ok.injEq] at h
    subst h
    refine q_step1 rfl hN fun ρ a w g v' hi hv' => ?_
    simp only [Ex.den1, Ex.den, Option.some.injEq] at hv'
    subst hv'
    exact ⟨rfl, _, fun w' _ => run_bin_bool _ _ _ _ (run_neq_bool _ _ hu) _ (val_bool hi hx hm) (val_bool hi hy hn), .bool _⟩
  · cases h
theorem elem_under {P : Program} {t e : TypeId} (h : elemOf P t = some e) : P.underlying t = some (.slice e) := by
  unfold elemOf at h
  cases hu : P.underlying t with
  | none => simp [hu] at h
  | some d => cases d <;> simp [hu] at h; rw [h]
theorem run_equalIn_nil {P : Program} {w : World} {t e : TypeId} (n : Nat) (A : Option Addr) (m c : Nat) (h : P.underlying t = some (.slice e)) : (Op.equalIn (n + 1) t (.slice A m c) (.slice none 0 0)).run P w = .ok A.isNone w := by
  cases A <;> simp [Op.equalIn, run_underlying h]
theorem run_nil_eq {P : Program} {w : World} {e : TypeId} {A : Option Addr} {n cap : Nat} (op : BinOp) (b : Bool) (hu : P.underlying t = some (.slice e)) (ho : op = .eql ∧ b = A.isNone ∨ op = .neq ∧ b = !A.isNone) (ρ : Operand → Value) (hx : ρ x = .slice A n cap) (hy : ρ y = .slice none 0 0) :
    (execOp ρ ⟨some d, .binOp op t x y t', ty, ps, af, gd⟩).run P w = .ok (.value (.bool b)) w := by
  simp only [execOp, hx, hy]
  have e : eqGuard op t x y (.slice A n cap) (.slice none 0 0) = pure () := by
    unfold eqGuard; split <;> rfl
  rw [e]
  have h1 : (Op.equal t (.slice A n cap) (.slice none 0 0)).run P w = .ok A.isNone w := by
    exact run_equalIn_nil 9999 A n cap hu
  rcases ho with ⟨rfl, rfl⟩ | ⟨rfl, rfl⟩
  · simp [Go.binOp, h1]
  · simp [Go.binOp, h1]
theorem row_of (h : TInv X D st ρ a w g) {r : Nat} {e : TypeId} {a' : Ty} {v : At} {nl : Bool} {inner : Option Rg} (hr : st.rk r = .list e a' v nl inner) :
    RowRep X.P w g (r, []) (.row false nl e (((v.get ρ).as (.sl e a')).mapIdx fun i y => encIn inner r i a' y)) :=
  h.inv.row (r, []) _ (by simp only [hr, RK.rows])
theorem binNil_ok {op : BinOp} {c : SC} {e : TypeId} (hN : d < X.N) (hu : elemOf X.P t = some e) (hx : st.val x = .ok (.c c)) (hy : st.val y = .ok (.c .nil)) (h : stepBinNil st d op c = .ok s) :
    QStep X D Γ st ⟨some d, .binOp op t x y t', ty, ps, af, gd⟩ s := by
  have hu' := elem_under hu
  have ny : ∀ {ρ a w g}, TInv X D st ρ a w g → a.eval y = .slice none 0 0 := fun hi => by
    have := val_rep hi hy
    simp only [SV.enc, SC.enc] at this
    generalize Act.eval _ y = u at this
    cases this; rfl
  unfold stepBinNil at h
  split at h
  · have nx : ∀ {ρ a w g}, TInv X D st ρ a w g → a.eval x = .slice none 0 0 := fun hi => by
      have := val_rep hi hx
      simp only [SV.enc, SC.enc] at this
      generalize Act.eval _ x = u at this
      cases this; rfl
    split at h
    · simp only [Except.ok.injEq] at h
      subst h
      exact q_put rfl hN fun ρ a w g hi => ⟨.bool true, fun w' _ => run_nil_eq _ _ hu' (.inl ⟨rfl, rfl⟩) _ (nx hi) (ny hi), .bool true⟩
    · simp only [Except.ok.injEq] at h
      subst h
      exact q_put rfl hN fun ρ a w g hi => ⟨.bool false, fun w' _ => run_nil_eq _ _ hu' (.inr ⟨rfl, rfl⟩) _ (nx hi) (ny hi), .bool false⟩
    · cases h
  · rename_i r
    split at h
    · rename_i e' a' v nl inner hr
      split at h
      case isFalse => cases h
      rename_i hvt
      simp only [Except.ok.injEq] at h
      subst h
      refine q_step1 rfl hN fun ρ a w g v' hi hv' => ?_
      have hrow := row_of hi hr
      have hh : a.eval x = g.hdr (r, []) := by
        have := val_rep hi hx
        simp only [SV.enc, SC.enc] at this
        generalize Act.eval _ x = u at this
        cases this; assumption
      have hvg := V.list_of (At.ty_get hi.typ hvt)
      generalize (v.get ρ).as (.sl e' a') = xs at hrow hvg
      simp only [Ex.den1, Ex.den, hvg, gnil, Option.bind_eq_some_iff, Option.some.injEq] at hv'
      obtain ⟨b, hb, rfl⟩ := hv'
      have hz : ∀ (l : List (List C)), (xs.mapIdx fun i y => encIn inner r i a' y) = l → (l = [] ↔ xs = []) := fun l hl => by
        rw [← hl, List.mapIdx_eq_nil_iff]
      refine ⟨rfl, .bool b, ?_, .bool b⟩
      split at hb
      · rename_i hc
        simp only [Option.some.injEq] at hb
        simp only [Bool.or_eq_true, Bool.not_eq_true'] at hc
        generalize hl : (xs.mapIdx fun i y => encIn inner r i a' y) = l at hrow
        have hz := hz l hl
        cases hrow with
        | nil _ _ hd =>
          refine fun w' _ => run_nil_eq (A := none) _ _ hu' (.inl ⟨rfl, ?_⟩) _ (hh.trans hd) (ny hi)
          rw [← hb, hz.1 rfl]; rfl
        | zero _ A hd =>
          rw [hz.1 rfl] at hc
          simp at hc
        | full _ _ _ _ bb base n cap cs f hf =>
          refine fun w' _ => run_nil_eq (A := some ⟨bb, base, none⟩) _ _ hu' (.inl ⟨rfl, ?_⟩) _ (hh.trans hf.hd) (ny hi)
          have hne : xs ≠ [] := by
            rcases hc with hc | hc
            · exact fun e0 => hf.nonil hc (hz.2 e0)
            · exact fun e0 => by rw [e0] at hc; simp at hc
          rw [← hb]
          cases xs with
          | nil => exact absurd rfl hne
          | cons _ _ => rfl
      · cases hb
    · cases h
  · cases h
theorem bin_ok {op : BinOp} (hN : d < X.N) (h : stepBin X.P st d op t x y = .ok s) : QStep X D Γ st ⟨some d, .binOp op t x y t', ty, ps, af, gd⟩ s := by
  unfold stepBin at h
  obtain ⟨vx, hx, h⟩ := ok_bind h
  obtain ⟨vy, hy, h⟩ := ok_bind h
  split at h
  · obtain ⟨tx, hm, h⟩ := ok_bind h
    obtain ⟨tn, hn, h⟩ := ok_bind h
    split at h
    · exact binInt_ok hN hx hy hm hn h
    · split at h
      · rename_i hu; exact binBool_ok hN hu hx hy hm hn h
      · cases h
    · cases h
  · split at h
    · rename_i e he; exact binNil_ok hN he hx hy h
    · cases h
  · cases h
theorem not_ok (hN : d < X.N) (h : stepNot st d x = .ok s) : QStep X D Γ st ⟨some d, .unOp .not t x, ty, ps, af, gd⟩ s := by
  unfold stepNot at h
  obtain ⟨y, hy, h⟩ := ok_bind h
  obtain ⟨h1, h2⟩ := boolOf_ok hy
  split at h
  · rename_i b
    simp only [Except.ok.injEq] at h
    subst h
    refine q_put rfl hN fun ρ a w g hi => ⟨.bool (!b), fun w' _ => ?_, .bool (!b)⟩
    have := val_bool hi h1 h2
    simp only [execOp, this]; rfl
  · simp only [Except.ok.injEq] at h
    subst h
    refine q_step1 rfl hN fun ρ a w g v' hi hv' => ?_
    simp only [Ex.den1, Ex.den, Option.some.injEq] at hv'
    subst hv'
    refine ⟨rfl, _, fun w' _ => ?_, .bool _⟩
    have := val_bool hi h1 h2
    simp only [execOp, this]; rfl
theorem neg_ok (hN : d < X.N) (h : stepNeg st d x = .ok s) : QStep X D Γ st ⟨some d, .unOp .neg t x, ty, ps, af, gd⟩ s := by
  unfold stepNeg at h
  obtain ⟨⟨k, y⟩, hy, h⟩ := ok_bind h
  obtain ⟨h1, h2⟩ := intOf_ok hy
  simp only [Except.ok.injEq] at h
  subst h
  refine q_step1 rfl hN fun ρ a w g v' hi hv' => ?_
  simp only [Ex.den1, Ex.den, Option.some.injEq] at hv'
  subst hv'
  refine ⟨rfl, _, fun w' _ => ?_, .int _ _⟩
  have := val_int hi h1 h2
  simp only [execOp, this]; rfl
theorem conv_ok (hN : d < X.N) (h : stepConv X.P st d t t' x = .ok s) : QStep X D Γ st ⟨some d, .convert t t' x, ty, ps, af, gd⟩ s := by
  unfold stepConv at h
  obtain ⟨⟨k, y⟩, hy, h⟩ := ok_bind h
  obtain ⟨h1, h2⟩ := intOf_ok hy
  simp only at h
  split at h
  · rename_i k1 k2 hu hu'
    split at h
    · rename_i hk
      subst hk
      simp only [Except.ok.injEq] at h
      subst h
      refine q_step1 rfl hN fun ρ a w g v' hi hv' => ?_
      simp only [Ex.den1, Ex.den, Option.some.injEq] at hv'
      subst hv'
      refine ⟨rfl, _, fun w' _ => ?_, .int _ _⟩
      have := val_int hi h1 h2
      simp [execOp, this, convert, run_underlying hu, run_underlying hu', Conv.intToInt, wrap]
    · cases h
  · cases h
theorem nilCheck_ok (hN : d < X.N) (h : stepNilCheck st d x = .ok s) : QStep X D Γ st ⟨some d, .nilCheck x, ty, ps, af, gd⟩ s := by
  unfold stepNilCheck at h
  obtain ⟨v, hv, h⟩ := ok_bind h
  have fin : ∀ {ρ a w g} (A : Addr), TInv X D st ρ a w g → a.eval x = .pointer (some A) → ∃ u, (∀ w', Cls D ⟨some d, .nilCheck x, ty, ps, af, gd⟩ w w' → (execOp a.eval ⟨some d, .nilCheck x, ty, ps, af, gd⟩).run X.P w' = .ok (.value u) w') ∧ PRep X.P w g (v.enc ρ) u := fun A hi he =>
    ⟨_, fun w' _ => by simp only [execOp, he]; rfl, he ▸ val_rep hi hv⟩
  split at h
  · rename_i r
    split at h
    · rename_i e cells hr
      simp only [Except.ok.injEq] at h
      subst h
      refine q_put rfl hN fun ρ a w g hi => ?_
      have hp := val_rep hi hv
      simp only [SV.enc, SC.enc] at hp
      have hh : a.eval x = g.hdr (r, []) := by
        generalize Act.eval _ x = u at hp
        cases hp; assumption
      have hrow : RowRep X.P w g (r, []) (.row true false e [encL ρ cells]) := hi.inv.row (r, []) _ (by simp only [hr, RK.rows])
      cases hrow with
      | full _ _ _ _ b base n cap cs f hf => exact fin ⟨b, base, none⟩ hi (hh.trans hf.hd)
    · cases h
  · rename_i rg cells
    simp only [Except.ok.injEq] at h
    subst h
    refine q_put rfl hN fun ρ a w g hi => ?_
    have hp := val_rep hi hv
    simp only [SV.enc, SC.enc] at hp
    obtain ⟨b, off, he⟩ : ∃ b off, a.eval x = .pointer (some ⟨b, off, none⟩) := by
      generalize Act.eval _ x = u at hp
      cases hp; exact ⟨_, _, rfl⟩
    exact fin _ hi he
  · cases h
theorem extract_ok {i : Nat} (hN : d < X.N) (h : stepExtract st d x i = .ok s) : QStep X D Γ st ⟨some d, .extract x i, ty, ps, af, gd⟩ s := by
  unfold stepExtract at h
  obtain ⟨v, hv, h⟩ := ok_bind h
  split at h
  · rename_i rs
    have key : ∀ {ρ a w g} (y : Bool × List SC), rs[i]? = some y → TInv X D st ρ a w g → ∃ u, (∀ w', Cls D ⟨some d, .extract x i, ty, ps, af, gd⟩ w w' → (execOp a.eval ⟨some d, .extract x i, ty, ps, af, gd⟩).run X.P w' = .ok (.value u) w') ∧ RRep w g (encR ρ y) u := fun {ρ a w g} y hy hi => by
      have hp := val_rep hi hv
      simp only [SV.enc] at hp
      obtain ⟨vs, h1, h2, h3⟩ := hp
      obtain ⟨u, hu, hr⟩ := h3 i (encR ρ y) (by rw [List.getElem?_map, hy]; rfl)
      exact ⟨u, fun w' _ => by simp [execOp, h1, Instr.extract, hu], hr⟩
    split at h
    · rename_i c hc
      simp only [Except.ok.injEq] at h
      subst h
      exact q_put rfl hN fun ρ a w g hi => by
        obtain ⟨u, h1, h2⟩ := key _ hc hi
        refine ⟨u, h1, ?_⟩
        simp only [encR, encL, Bool.false_eq_true, if_false] at h2
        exact h2
    · rename_i cs hc
      simp only [Except.ok.injEq] at h
      subst h
      exact q_put rfl hN fun ρ a w g hi => by
        obtain ⟨u, h1, h2⟩ := key _ hc hi
        refine ⟨u, h1, ?_⟩
        simp only [encR, if_true] at h2
        exact h2
    · cases h
  · cases h
theorem minmax_ok {mn : Bool} {ats : Array TypeId} (hN : d < X.N) (h : stepMinMax mn st d x y = .ok s) : QStep X D Γ st ⟨some d, .call { callee := .builtin (if mn then .min else .max), args := #[x, y], argTypes := ats }, ty, ps, af, gd⟩ s := by
  unfold stepMinMax at h
  obtain ⟨⟨k, m⟩, hm, h⟩ := ok_bind h
  obtain ⟨⟨k', n⟩, hn, h⟩ := ok_bind h
  obtain ⟨m1, m2⟩ := intOf_ok hm
  obtain ⟨n1, n2⟩ := intOf_ok hn
  simp only at h
  split at h
  · rename_i hk
    obtain ⟨rfl, rfl⟩ := hk
    simp only [Except.ok.injEq] at h
    subst h
    refine q_step1 rfl hN fun ρ a w g v' hi hv' => ?_
    have e1 := val_int hi m1 m2
    have e2 := val_int hi n1 n2
    cases mn
    · simp only [Ex.den1, Ex.den, Option.some.injEq, Bool.false_eq_true, if_false] at hv'
      subst hv'
      exact ⟨rfl, _, fun w' _ => by simp [execOp, resolve, invoke, builtin, Builtin.max_, Builtin.max2, e1, e2], .int _ _⟩
    · simp only [Ex.den1, Ex.den, Option.some.injEq, if_true] at hv'
      subst hv'
      exact ⟨rfl, _, fun w' _ => by simp [execOp, resolve, invoke, builtin, Builtin.min_, Builtin.min2, e1, e2], .int _ _⟩
  · cases h
end
end Go.Pu
