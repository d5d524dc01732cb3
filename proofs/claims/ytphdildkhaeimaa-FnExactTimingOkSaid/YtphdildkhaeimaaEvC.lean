/-
  Own work. The rules of the frame logic: operations that compute.
-/
import Derived.Test.YtphdildkhaeimaaEvB
namespace Go.Ev
open Go Go.RowKit

theorem getD_set_eq (t : Array Value) (d : Nat) (v : Value) (h : d < t.size) : (t.setIfInBounds d v).getD d undef = v := by
  rw [Array.getD_eq_getD_getElem?, Array.getElem?_setIfInBounds_self_of_lt h]; rfl
theorem getD_set_ne' (t : Array Value) (d s : Nat) (v : Value) (h : d ≠ s) : (t.setIfInBounds d v).getD s undef = t.getD s undef := by
  rw [Array.getD_eq_getD_getElem?, Array.getElem?_setIfInBounds_ne h, ← Array.getD_eq_getD_getElem?]
theorem beq_self (d : Nat) : Nat.beq d d = true := Nat.beq_refl d
theorem beq_ne {s d : Nat} (h : s ≠ d) : Nat.beq s d = false := by
  cases hj : Nat.beq s d with
  | true => exact absurd (Nat.eq_of_beq_eq_true hj) h
  | false => rfl
theorem upd_same (fr : Frame) (d : Nat) (p : PV) : upd fr d p d = p := by unfold upd; rw [beq_self]; rfl
theorem upd_ne (fr : Frame) (d s : Nat) (p : PV) (h : s ≠ d) : upd fr d p s = fr s := by
  unfold upd; rw [beq_ne h]; rfl
theorem place_same (fr : Frame) (d : Nat) (p : PV) : place fr d p d = p := by unfold place; rw [beq_self]; rfl
theorem place_ne (fr : Frame) (d s : Nat) (p : PV) (h : s ≠ d) : place fr d p s = killPV d (fr s) := by
  unfold place; rw [beq_ne h]; rfl

theorem inv_upd {X : Ctx} {fr : Frame} {a : Act} {w : World} {g : G} (h : InvG X fr a w g) {d : Nat} {p : PV} {v : Value} (hN : Nat.blt d X.N = true) (hp : PRep X.P w g d p v) :
    InvG X (Ev.upd fr d p) (a.put (some d) v) w g := by
  have hd : d < a.tmps.size := by rw [h.size]; simpa using hN
  refine ⟨by simpa [Act.put] using h.size, h.nodef, h.ok, fun s => ?_⟩
  by_cases hs : s = d
  · subst hs
    rw [upd_same]
    simp only [Act.put]
    rw [getD_set_eq _ _ _ hd]; exact hp
  · rw [upd_ne _ _ _ _ hs]
    simp only [Act.put]
    rw [getD_set_ne' _ _ _ _ (Ne.symm hs)]; exact h.slot s
theorem inv_drew {X : Ctx} {fr : Frame} {a : Act} {w : World} {g : G} (h : InvG X fr a w g) : InvG X fr a { w with drawn := w.drawn + 1 } g :=
  ⟨h.size, h.nodef, ⟨h.ok.bel.drew, h.ok.base, h.ok.S, h.ok.own⟩, fun s => (h.slot s).keep (fun _ hb => ⟨hb, rfl⟩) (fun _ _ hb => ⟨hb, rfl⟩) (fun _ => rfl) (fun _ _ _ => rfl)⟩

def wantF (ops : Array Oper) (fr : Frame) : Option (Nat × Bool) → Option Bool
  | none => some true
  | some (j, want) => match (ops[j]?).bind (·.dst) with
    | some t => match fr t with
      | .t (.bool b) => some (b == want)
      | .und => some false
      | _ => none
    | none => none
theorem inv_wanted {X : Ctx} {fr : Frame} {a : Act} {w : World} {g : G} (h : InvG X fr a w g) {ops : Array Oper} {o : Oper} {r : Bool} (hw : wantF ops fr o.guard = some r) :
    Region.wanted o (yielded ops a.tmps) = r := by
  unfold Region.wanted
  cases hg : o.guard with
  | none => rw [hg] at hw; simpa [wantF] using hw
  | some jw =>
    obtain ⟨j, want⟩ := jw
    rw [hg] at hw
    unfold wantF at hw
    cases ht : (ops[j]?).bind (·.dst) with
    | none => simp [ht] at hw
    | some t =>
      simp only [ht] at hw
      have hs := h.slot t
      cases hf : fr t with
      | t x =>
        rw [hf] at hs hw
        cases x with
        | bool b =>
          have hv : a.tmps.getD t undef = .bool b := by
            generalize a.tmps.getD t undef = u at hs
            cases Rep.im' hs rfl; rfl
          have hv' : a.tmps[t]? = some (.bool b) := by
            rcases Nat.lt_or_ge t a.tmps.size with hlt | hge
            · rw [Array.getD_eq_getD_getElem?, Array.getElem?_eq_getElem hlt, Option.getD_some] at hv
              rw [Array.getElem?_eq_getElem hlt, hv]
            · rw [Array.getD_eq_getD_getElem?, Array.getElem?_eq_none hge, Option.getD_none] at hv
              simp [undef] at hv
          simp only [yielded, ht, Option.bind_some, hv']
          simp only [Option.some.injEq] at hw
          rw [← hw]
          cases b <;> cases want <;> rfl
        | _ => simp at hw
      | und =>
        rw [hf] at hs hw
        have hs : a.tmps.getD t undef = undef := hs
        simp only [Option.some.injEq] at hw
        rw [← hw]
        have hv' : yielded ops a.tmps j = none := by
          unfold yielded
          simp only [ht, Option.bind_some]
          cases hx : a.tmps[t]? with
          | none => rfl
          | some u =>
            rw [Array.getD_eq_getD_getElem?, hx] at hs
            have hs : u = undef := hs
            subst hs; rfl
        simp only [hv']; rfl
      | _ => simp [hf] at hw

section
variable {X : Ctx} {ops : Array Oper} {rest : List (Oper × Bool)} {fr : Frame} {K : Frame → Prop} {nr : Bool}

theorem EvO.nil (h : K fr) : EvO X ops [] fr K := ⟨fun _ _ hi => ⟨fr, hi, h⟩⟩

/-- An operation that computes. -/
theorem EvO.q {o : Oper} {d : Nat} (p : PV) (hq : isQ o.op = true) (hd : o.dst = some d) (hN : Nat.blt d X.N = true) (hw : wantF ops fr o.guard = some true)
    (hrun : ∀ (a : Act) (w : World) (g : G), InvG X fr a w g → ∃ v, (∀ w', Cls o w w' → (execOp a.eval o).run X.P w' = .ok (.value v) w') ∧ PRep X.P w g d p v)
    (h : EvO X ops rest (upd fr d p) K) : EvO X ops ((o, nr) :: rest) fr K := by
  refine ⟨fun a w ⟨g, hi⟩ => ?_⟩
  unfold LexL
  rw [if_pos hq]
  obtain ⟨v, h1, h2⟩ := hrun a w g hi
  refine ⟨v, .inl ⟨inv_wanted hi hw, h1⟩, ?_⟩
  rw [hd]
  exact h.run _ _ ⟨g, inv_upd hi hN h2⟩
/-- An operation whose guard shuts it out. -/
theorem EvO.skip {o : Oper} {d : Nat} (hd : o.dst = some d) (hN : Nat.blt d X.N = true) (hw : wantF ops fr o.guard = some false)
    (h : EvO X ops rest (upd fr d .und) K) : EvO X ops ((o, nr) :: rest) fr K := by
  refine ⟨fun a w ⟨g, hi⟩ => ?_⟩
  have hwn := inv_wanted hi hw
  have hi' : Inv X (upd fr d .und) (a.put o.dst undef) w := by rw [hd]; exact ⟨g, inv_upd hi hN rfl⟩
  unfold LexL
  split
  · exact ⟨undef, .inr ⟨hwn, rfl⟩, h.run _ _ hi'⟩
  · rw [if_neg (by rw [hwn]; exact Bool.false_ne_true)]
    exact h.run _ _ hi'
/-- A slot's Bool is parted. -/
theorem upd_self (fr : Frame) (s : Nat) (p : PV) (h : fr s = p) : upd fr s p = fr := by
  funext j
  unfold upd
  cases hj : Nat.beq j s with
  | true => have : j = s := Nat.eq_of_beq_eq_true hj
            subst this; exact h.symm
  | false => rfl
theorem EvO.split {l : List (Oper × Bool)} (s : Nat) {b : Bool} (hs : fr s = .t (.bool b)) (ht : b = true → EvO X ops l (upd fr s (.t (.bool true))) K) (hf : b = false → EvO X ops l (upd fr s (.t (.bool false))) K) : EvO X ops l fr K := by
  cases b
  · have := hf rfl; rwa [upd_self fr s _ hs] at this
  · have := ht rfl; rwa [upd_self fr s _ hs] at this
theorem EvO.splitP {l : List (Oper × Bool)} (s : Nat) {p : Prop} [Decidable p] (hs : fr s = .t (.bool (decide p))) (ht : p → EvO X ops l (upd fr s (.t (.bool true))) K) (hf : ¬ p → EvO X ops l (upd fr s (.t (.bool false))) K) : EvO X ops l fr K :=
  EvO.split s hs (fun h => ht (of_decide_eq_true h)) (fun h => hf (of_decide_eq_false h))

/-- The Bool that a guard looks at is parted. -/
theorem EvO.gsplit {o : Oper} {j t : Nat} {want b : Bool} (hg : o.guard = some (j, want)) (hj : (ops[j]?).bind (·.dst) = some t) (ht : fr t = .t (.bool b))
    (h1 : b = true → EvO X ops ((o, nr) :: rest) (upd fr t (.t (.bool true))) K) (h2 : b = false → EvO X ops ((o, nr) :: rest) (upd fr t (.t (.bool false))) K) : EvO X ops ((o, nr) :: rest) fr K :=
  have _h := hg
  have _h' := hj
  EvO.split t ht h1 h2
theorem EvO.gsplitP {o : Oper} {j t : Nat} {want : Bool} {p : Prop} [Decidable p] (hg : o.guard = some (j, want)) (hj : (ops[j]?).bind (·.dst) = some t) (ht : fr t = .t (.bool (decide p)))
    (h1 : p → EvO X ops ((o, nr) :: rest) (upd fr t (.t (.bool true))) K) (h2 : ¬ p → EvO X ops ((o, nr) :: rest) (upd fr t (.t (.bool false))) K) : EvO X ops ((o, nr) :: rest) fr K :=
  have _h := hg
  have _h' := hj
  EvO.splitP t ht h1 h2
section
variable {d : Nat} {x y : Operand} {t t' ty : TypeId} {ps : String} {af : Array Edge} {gd : Option (Nat × Bool)}

theorem EvO.move (hN : Nat.blt d X.N = true) (hw : wantF ops fr gd = some true) (h : EvO X ops rest (upd fr d (val fr x)) K) : EvO X ops ((⟨some d, .move x, ty, ps, af, gd⟩, nr) :: rest) fr K :=
  EvO.q _ rfl rfl hN hw (fun _ _ _ hi => ⟨_, fun _ _ => rfl, inv_val hi d x⟩) h
theorem EvO.assign (hN : Nat.blt d X.N = true) (hw : wantF ops fr gd = some true) (h : EvO X ops rest (upd fr d (val fr x)) K) : EvO X ops ((⟨some d, .assign x, ty, ps, af, gd⟩, nr) :: rest) fr K :=
  EvO.q _ rfl rfl hN hw (fun _ _ _ hi => ⟨_, fun _ _ => rfl, inv_val hi d x⟩) h

theorem EvO.moveT {q : T} (hx : val fr x = .t q) (hN : Nat.blt d X.N = true) (hw : wantF ops fr gd = some true) (h : EvO X ops rest (upd fr d (.t q)) K) : EvO X ops ((⟨some d, .move x, ty, ps, af, gd⟩, nr) :: rest) fr K :=
  EvO.move hN hw (hx ▸ h)
theorem EvO.moveAl {s : Nat} {q : Path} (hx : val fr x = .al s q) (hN : Nat.blt d X.N = true) (hw : wantF ops fr gd = some true) (h : EvO X ops rest (upd fr d (.al s q)) K) : EvO X ops ((⟨some d, .move x, ty, ps, af, gd⟩, nr) :: rest) fr K :=
  EvO.move hN hw (hx ▸ h)
theorem EvO.moveAgg {q : List T} (hx : val fr x = .agg q) (hN : Nat.blt d X.N = true) (hw : wantF ops fr gd = some true) (h : EvO X ops rest (upd fr d (.agg q)) K) : EvO X ops ((⟨some d, .move x, ty, ps, af, gd⟩, nr) :: rest) fr K :=
  EvO.move hN hw (hx ▸ h)
theorem EvO.assignT {q : T} (hx : val fr x = .t q) (hN : Nat.blt d X.N = true) (hw : wantF ops fr gd = some true) (h : EvO X ops rest (upd fr d (.t q)) K) : EvO X ops ((⟨some d, .assign x, ty, ps, af, gd⟩, nr) :: rest) fr K :=
  EvO.assign hN hw (hx ▸ h)
theorem EvO.assignAl {s : Nat} {q : Path} (hx : val fr x = .al s q) (hN : Nat.blt d X.N = true) (hw : wantF ops fr gd = some true) (h : EvO X ops rest (upd fr d (.al s q)) K) : EvO X ops ((⟨some d, .assign x, ty, ps, af, gd⟩, nr) :: rest) fr K :=
  EvO.assign hN hw (hx ▸ h)
theorem EvO.assignAgg {q : List T} (hx : val fr x = .agg q) (hN : Nat.blt d X.N = true) (hw : wantF ops fr gd = some true) (h : EvO X ops rest (upd fr d (.agg q)) K) : EvO X ops ((⟨some d, .assign x, ty, ps, af, gd⟩, nr) :: rest) fr K :=
  EvO.assign hN hw (hx ▸ h)
theorem inv_int {a : Act} {w : World} {g : G} (hi : InvG X fr a w g) {z : Int} (hx : val fr x = .t (.int z)) : a.eval x = .int .i64 z := by
  have := inv_val hi 0 x
  rw [hx] at this
  generalize a.eval x = u at this
  cases Rep.im' this rfl; rfl
theorem inv_bool {a : Act} {w : World} {g : G} (hi : InvG X fr a w g) {z : Bool} (hx : val fr x = .t (.bool z)) : a.eval x = .bool z := by
  have := inv_val hi 0 x
  rw [hx] at this
  generalize a.eval x = u at this
  cases Rep.im' this rfl; rfl
theorem pint {w : World} {g : G} (z : Int) : PRep X.P w g d (.t (.int z)) (.int .i64 z) := .im _ _ _ (.int z)
theorem pbool {w : World} {g : G} (z : Bool) : PRep X.P w g d (.t (.bool z)) (.bool z) := .im _ _ _ (.bool z)

theorem run_bin_int {P : Program} {w : World} (op : BinOp) (k k' : Int) (v : Value) (h : (Go.binOp op t (.int .i64 k) (.int .i64 k')).run P w = .ok v w) (ρ : Operand → Value) (hx : ρ x = .int .i64 k) (hy : ρ y = .int .i64 k') :
    (execOp ρ ⟨some d, .binOp op t x y t', ty, ps, af, gd⟩).run P w = .ok (.value v) w := by
  simp only [execOp, hx, hy]
  have e : eqGuard op t x y (.int .i64 k) (.int .i64 k') = pure () := by
    unfold eqGuard; split <;> rfl
  rw [e]
  simp only [Sem.run_bind, Sem.run_pure, Result.andThen_ok, h]

theorem EvO.bin (op : BinOp) (a b : Int) (p : T) (v : Value) (hx : val fr x = .t (.int a)) (hy : val fr y = .t (.int b)) (hN : Nat.blt d X.N = true) (hw : wantF ops fr gd = some true)
    (hrun : ∀ w, (Go.binOp op t (.int .i64 a) (.int .i64 b)).run X.P w = .ok v w) (hp : ∀ (w : World) (g : G), PRep X.P w g d (.t p) v)
    (h : EvO X ops rest (upd fr d (.t p)) K) : EvO X ops ((⟨some d, .binOp op t x y t', ty, ps, af, gd⟩, nr) :: rest) fr K :=
  EvO.q _ rfl rfl hN hw (fun _ w g hi => ⟨v, fun w' _ => run_bin_int op a b v (hrun w') _ (inv_int hi hx) (inv_int hi hy), hp w g⟩) h

theorem EvO.add {a b : Int} (hx : val fr x = .t (.int a)) (hy : val fr y = .t (.int b)) (hb : -9223372036854775808 ≤ a + b ∧ a + b ≤ 9223372036854775807) (hN : Nat.blt d X.N = true) (hw : wantF ops fr gd = some true)
    (h : EvO X ops rest (upd fr d (.t (.int (a + b)))) K) : EvO X ops ((⟨some d, .binOp .add t x y t', ty, ps, af, gd⟩, nr) :: rest) fr K :=
  EvO.bin .add a b _ (.int .i64 (a + b)) hx hy hN hw (fun w => by
    have e : IntKind.i64.wrap (a + b) = a + b := IntWalk.i64_in _ (by omega)
    show Result.ok (Value.int .i64 (IntKind.i64.wrap (a + b))) w = _
    rw [e]) (fun _ _ => pint _) h
theorem EvO.sub {a b : Int} (hx : val fr x = .t (.int a)) (hy : val fr y = .t (.int b)) (hb : -9223372036854775808 ≤ a - b ∧ a - b ≤ 9223372036854775807) (hN : Nat.blt d X.N = true) (hw : wantF ops fr gd = some true)
    (h : EvO X ops rest (upd fr d (.t (.int (a - b)))) K) : EvO X ops ((⟨some d, .binOp .sub t x y t', ty, ps, af, gd⟩, nr) :: rest) fr K :=
  EvO.bin .sub a b _ (.int .i64 (a - b)) hx hy hN hw (fun w => by
    have e : IntKind.i64.wrap (a - b) = a - b := IntWalk.i64_in _ (by omega)
    show Result.ok (Value.int .i64 (IntKind.i64.wrap (a - b))) w = _
    rw [e]) (fun _ _ => pint _) h
theorem EvO.mul {a b : Int} (hx : val fr x = .t (.int a)) (hy : val fr y = .t (.int b)) (hb : -9223372036854775808 ≤ a * b ∧ a * b ≤ 9223372036854775807) (hN : Nat.blt d X.N = true) (hw : wantF ops fr gd = some true)
    (h : EvO X ops rest (upd fr d (.t (.int (a * b)))) K) : EvO X ops ((⟨some d, .binOp .mul t x y t', ty, ps, af, gd⟩, nr) :: rest) fr K :=
  EvO.bin .mul a b _ (.int .i64 (a * b)) hx hy hN hw (fun w => by
    have e : IntKind.i64.wrap (a * b) = a * b := IntWalk.i64_in _ (by omega)
    show Result.ok (Value.int .i64 (IntKind.i64.wrap (a * b))) w = _
    rw [e]) (fun _ _ => pint _) h
/-- Sums that may wrap. -/
def w64 (z : Int) : Int := IntKind.i64.wrap z
theorem w64_in {z : Int} (hb : -9223372036854775808 ≤ z ∧ z ≤ 9223372036854775807) : w64 z = z := IntWalk.i64_in _ (by omega)
theorem EvO.addW {a b : Int} (hx : val fr x = .t (.int a)) (hy : val fr y = .t (.int b)) (hN : Nat.blt d X.N = true) (hw : wantF ops fr gd = some true)
    (h : EvO X ops rest (upd fr d (.t (.int (w64 (a + b))))) K) : EvO X ops ((⟨some d, .binOp .add t x y t', ty, ps, af, gd⟩, nr) :: rest) fr K :=
  EvO.bin .add a b _ (.int .i64 (w64 (a + b))) hx hy hN hw (fun _ => rfl) (fun _ _ => pint _) h
theorem EvO.subW {a b : Int} (hx : val fr x = .t (.int a)) (hy : val fr y = .t (.int b)) (hN : Nat.blt d X.N = true) (hw : wantF ops fr gd = some true)
    (h : EvO X ops rest (upd fr d (.t (.int (w64 (a - b))))) K) : EvO X ops ((⟨some d, .binOp .sub t x y t', ty, ps, af, gd⟩, nr) :: rest) fr K :=
  EvO.bin .sub a b _ (.int .i64 (w64 (a - b))) hx hy hN hw (fun _ => rfl) (fun _ _ => pint _) h
theorem EvO.mulW {a b : Int} (hx : val fr x = .t (.int a)) (hy : val fr y = .t (.int b)) (hN : Nat.blt d X.N = true) (hw : wantF ops fr gd = some true)
    (h : EvO X ops rest (upd fr d (.t (.int (w64 (a * b))))) K) : EvO X ops ((⟨some d, .binOp .mul t x y t', ty, ps, af, gd⟩, nr) :: rest) fr K :=
  EvO.bin .mul a b _ (.int .i64 (w64 (a * b))) hx hy hN hw (fun _ => rfl) (fun _ _ => pint _) h
theorem EvO.andW {a b : Int} (hx : val fr x = .t (.int a)) (hy : val fr y = .t (.int b)) (hN : Nat.blt d X.N = true) (hw : wantF ops fr gd = some true)
    (h : EvO X ops rest (upd fr d (.t (.int (w64 ((BitVec.ofInt 64 a &&& BitVec.ofInt 64 b).toNat : Int))))) K) : EvO X ops ((⟨some d, .binOp .and t x y t', ty, ps, af, gd⟩, nr) :: rest) fr K :=
  EvO.bin .and a b _ (.int .i64 (w64 ((BitVec.ofInt 64 a &&& BitVec.ofInt 64 b).toNat : Int))) hx hy hN hw (fun _ => rfl) (fun _ _ => pint _) h
theorem EvO.quo {a b : Int} (hx : val fr x = .t (.int a)) (hy : val fr y = .t (.int b)) (hb : 1 ≤ b) (ha : -9223372036854775808 ≤ a ∧ a ≤ 9223372036854775807) (hN : Nat.blt d X.N = true) (hw : wantF ops fr gd = some true)
    (h : EvO X ops rest (upd fr d (.t (.int (a.tdiv b)))) K) : EvO X ops ((⟨some d, .binOp .quo t x y t', ty, ps, af, gd⟩, nr) :: rest) fr K :=
  EvO.bin .quo a b _ (.int .i64 (a.tdiv b)) hx hy hN hw (fun w => by
    have e0 : ¬ b = 0 := by omega
    have e : IntKind.i64.wrap (a.tdiv b) = a.tdiv b := IntWalk.i64_in _ (by
      rcases Int.le_total 0 a with h0 | h0
      · have h1 : a.tdiv b = a / b := Int.tdiv_eq_ediv_of_nonneg h0
        have h2 : 0 ≤ a / b := Int.ediv_nonneg h0 (by omega)
        have h3 : a / b ≤ a := Int.ediv_le_self b h0
        omega
      · have h1 : (-a).tdiv b = -(a.tdiv b) := Int.neg_tdiv a b
        have h1' : (-a).tdiv b = (-a) / b := Int.tdiv_eq_ediv_of_nonneg (by omega)
        have h2 : 0 ≤ (-a) / b := Int.ediv_nonneg (by omega) (by omega)
        have h3 : (-a) / b ≤ -a := Int.ediv_le_self b (by omega)
        omega)
    show (Op.intDiv .quo .i64 a b).run X.P w = _
    simp only [Op.intDiv, e0, if_false, Sem.run_pure, e]) (fun _ _ => pint _) h
theorem EvO.rem {a b : Int} (hx : val fr x = .t (.int a)) (hy : val fr y = .t (.int b)) (hb : b ≠ 0) (hN : Nat.blt d X.N = true) (hw : wantF ops fr gd = some true)
    (h : EvO X ops rest (upd fr d (.t (.int (a.tmod b)))) K) : EvO X ops ((⟨some d, .binOp .rem t x y t', ty, ps, af, gd⟩, nr) :: rest) fr K :=
  EvO.bin .rem a b _ (.int .i64 (a.tmod b)) hx hy hN hw (fun w => by
    show (Op.intDiv .rem .i64 a b).run X.P w = _
    simp only [Op.intDiv, hb, if_false, Sem.run_pure]) (fun _ _ => pint _) h
theorem EvO.eql {a b : Int} (hx : val fr x = .t (.int a)) (hy : val fr y = .t (.int b)) (hN : Nat.blt d X.N = true) (hw : wantF ops fr gd = some true)
    (h : EvO X ops rest (upd fr d (.t (.bool (decide (a = b))))) K) : EvO X ops ((⟨some d, .binOp .eql t x y t', ty, ps, af, gd⟩, nr) :: rest) fr K :=
  EvO.bin .eql a b _ (.bool (decide (a = b))) hx hy hN hw (fun _ => rfl) (fun _ _ => pbool _) h
theorem EvO.neq {a b : Int} (hx : val fr x = .t (.int a)) (hy : val fr y = .t (.int b)) (hN : Nat.blt d X.N = true) (hw : wantF ops fr gd = some true)
    (h : EvO X ops rest (upd fr d (.t (.bool (decide (a ≠ b))))) K) : EvO X ops ((⟨some d, .binOp .neq t x y t', ty, ps, af, gd⟩, nr) :: rest) fr K :=
  EvO.bin .neq a b _ (.bool (decide (a ≠ b))) hx hy hN hw (fun w => by
    show Result.ok (Value.bool (a != b)) w = _
    have e : (a != b) = decide (a ≠ b) := by by_cases h : a = b <;> simp [h]
    rw [e]) (fun _ _ => pbool _) h
theorem EvO.lss {a b : Int} (hx : val fr x = .t (.int a)) (hy : val fr y = .t (.int b)) (hN : Nat.blt d X.N = true) (hw : wantF ops fr gd = some true)
    (h : EvO X ops rest (upd fr d (.t (.bool (decide (a < b))))) K) : EvO X ops ((⟨some d, .binOp .lss t x y t', ty, ps, af, gd⟩, nr) :: rest) fr K :=
  EvO.bin .lss a b _ (.bool (decide (a < b))) hx hy hN hw (fun _ => rfl) (fun _ _ => pbool _) h
theorem EvO.leq {a b : Int} (hx : val fr x = .t (.int a)) (hy : val fr y = .t (.int b)) (hN : Nat.blt d X.N = true) (hw : wantF ops fr gd = some true)
    (h : EvO X ops rest (upd fr d (.t (.bool (decide (a ≤ b))))) K) : EvO X ops ((⟨some d, .binOp .leq t x y t', ty, ps, af, gd⟩, nr) :: rest) fr K :=
  EvO.bin .leq a b _ (.bool (decide (a ≤ b))) hx hy hN hw (fun _ => rfl) (fun _ _ => pbool _) h
theorem EvO.gtr {a b : Int} (hx : val fr x = .t (.int a)) (hy : val fr y = .t (.int b)) (hN : Nat.blt d X.N = true) (hw : wantF ops fr gd = some true)
    (h : EvO X ops rest (upd fr d (.t (.bool (decide (b < a))))) K) : EvO X ops ((⟨some d, .binOp .gtr t x y t', ty, ps, af, gd⟩, nr) :: rest) fr K :=
  EvO.bin .gtr a b _ (.bool (decide (b < a))) hx hy hN hw (fun _ => rfl) (fun _ _ => pbool _) h
theorem EvO.geq {a b : Int} (hx : val fr x = .t (.int a)) (hy : val fr y = .t (.int b)) (hN : Nat.blt d X.N = true) (hw : wantF ops fr gd = some true)
    (h : EvO X ops rest (upd fr d (.t (.bool (decide (b ≤ a))))) K) : EvO X ops ((⟨some d, .binOp .geq t x y t', ty, ps, af, gd⟩, nr) :: rest) fr K :=
  EvO.bin .geq a b _ (.bool (decide (b ≤ a))) hx hy hN hw (fun _ => rfl) (fun _ _ => pbool _) h
theorem EvO.not {b : Bool} (hx : val fr x = .t (.bool b)) (hN : Nat.blt d X.N = true) (hw : wantF ops fr gd = some true)
    (h : EvO X ops rest (upd fr d (.t (.bool (!b)))) K) : EvO X ops ((⟨some d, .unOp .not t x, ty, ps, af, gd⟩, nr) :: rest) fr K :=
  EvO.q _ rfl rfl hN hw (fun _ _ _ hi => ⟨.bool (!b), fun w' _ => by simp only [execOp, inv_bool hi hx]; rfl, pbool _⟩) h
theorem EvO.notP {p : Prop} {ip : Decidable p} (hx : val fr x = .t (.bool (decide p))) (hN : Nat.blt d X.N = true) (hw : wantF ops fr gd = some true)
    (h : EvO X ops rest (upd fr d (.t (.bool (decide (¬ p))))) K) : EvO X ops ((⟨some d, .unOp .not t x, ty, ps, af, gd⟩, nr) :: rest) fr K := by
  refine EvO.not hx hN hw ?_
  rw [← decide_not]; exact h
theorem EvO.neg {z : Int} (hx : val fr x = .t (.int z)) (hb : -9223372036854775807 ≤ z ∧ z ≤ 9223372036854775807) (hN : Nat.blt d X.N = true) (hw : wantF ops fr gd = some true)
    (h : EvO X ops rest (upd fr d (.t (.int (-z)))) K) : EvO X ops ((⟨some d, .unOp .neg t x, ty, ps, af, gd⟩, nr) :: rest) fr K :=
  EvO.q _ rfl rfl hN hw (fun _ _ _ hi => ⟨.int .i64 (-z), fun w' _ => by
    have e : IntKind.i64.wrap (0 - z) = -z := by rw [show (0 : Int) - z = -z from by omega]; exact IntWalk.i64_in _ (by omega)
    simp only [execOp, inv_int hi hx]
    show Result.ok (Next.value (Value.int .i64 (IntKind.i64.wrap (0 - z)))) w' = _
    rw [e], pint _⟩) h
theorem EvO.pickT {c : Operand} {b : Bool} (hc : val fr c = .t (.bool true)) (hx : val fr x = .t (.bool b)) (hN : Nat.blt d X.N = true) (hw : wantF ops fr gd = some true)
    (h : EvO X ops rest (upd fr d (.t (.bool b))) K) : EvO X ops ((⟨some d, .pick c x y, ty, ps, af, gd⟩, nr) :: rest) fr K :=
  EvO.q _ rfl rfl hN hw (fun _ _ _ hi => ⟨.bool b, fun w' _ => by simp only [execOp, inv_bool hi hc, inv_bool hi hx]; rfl, pbool _⟩) h
theorem EvO.pickF {c : Operand} {b : Bool} (hc : val fr c = .t (.bool false)) (hx : val fr y = .t (.bool b)) (hN : Nat.blt d X.N = true) (hw : wantF ops fr gd = some true)
    (h : EvO X ops rest (upd fr d (.t (.bool b))) K) : EvO X ops ((⟨some d, .pick c x y, ty, ps, af, gd⟩, nr) :: rest) fr K :=
  EvO.q _ rfl rfl hN hw (fun _ _ _ hi => ⟨.bool b, fun w' _ => by simp only [execOp, inv_bool hi hc, inv_bool hi hx]; rfl, pbool _⟩) h
end
end
end Go.Ev
