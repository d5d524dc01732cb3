/-
  Own work. The small typed language: types, values, expressions, statements, and what they compute.
-/
import Derived.Test.YtamaghlnjchhbaaPuB
namespace Go.Pu
open Go Go.RowKit

inductive Ty where
  | int (k : IntKind)
  | bool
  | unit
  | pr (a b : Ty)
  | sl (e : TypeId) (a : Ty)
  | mp
  deriving DecidableEq, Repr, Inhabited
@[reducible] def Ty.den : Ty → Type
  | .int _ => Int
  | .bool => Bool
  | .unit => Unit
  | .pr a b => a.den × b.den
  | .sl _ a => List a.den
  | .mp => List (Int × Bool)
def Ty.dflt : (t : Ty) → t.den
  | .int _ => (0 : Int)
  | .bool => false
  | .unit => ()
  | .pr a b => (a.dflt, b.dflt)
  | .sl _ _ => []
  | .mp => []
/-- How many cells. -/
def Ty.n : Ty → Nat
  | .int _ | .bool | .sl _ _ | .mp => 1
  | .unit => 0
  | .pr a b => a.n + b.n
/-- No slices within. -/
def Ty.flat : Ty → Bool
  | .int _ | .bool | .unit => true
  | .pr a b => a.flat && b.flat
  | .sl _ _ | .mp => false
/-- Slices of what is flat, at most. -/
def Ty.flat1 : Ty → Bool
  | .int _ | .bool | .unit => true
  | .pr a b => a.flat1 && b.flat1
  | .sl _ a => a.flat
  | .mp => false
/-- No maps. -/
def Ty.nomap : Ty → Bool
  | .int _ | .bool | .unit => true
  | .pr a b => a.nomap && b.nomap
  | .sl _ a => a.nomap
  | .mp => false
structure V where
  t : Ty
  x : t.den
def V.u : V := ⟨.unit, ()⟩
def V.int : V → Int
  | ⟨.int _, z⟩ => z
  | _ => 0
def V.bool : V → Bool
  | ⟨.bool, b⟩ => b
  | _ => false
def V.len : V → Nat
  | ⟨.sl _ _, xs⟩ => xs.length
  | _ => 0
def V.proj : V → List Bool → V
  | v, [] => v
  | ⟨.pr a _, x⟩, false :: p => V.proj ⟨a, x.1⟩ p
  | ⟨.pr _ b, x⟩, true :: p => V.proj ⟨b, x.2⟩ p
  | _, _ :: _ => V.u
def Ty.proj : Ty → List Bool → Option Ty
  | t, [] => some t
  | .pr a _, false :: p => a.proj p
  | .pr _ b, true :: p => b.proj p
  | _, _ :: _ => none
abbrev Env := List V
structure Ref where
  n : Nat
  p : List Bool
  deriving DecidableEq, Repr, Inhabited
def Ref.get (ρ : Env) (r : Ref) : V := (ρ.getD r.n V.u).proj r.p
/-- An atom. -/
inductive At where
  | r (r : Ref)
  | int (k : IntKind) (z : Int)
  | bool (b : Bool)
  | nil (t : Ty)
  deriving DecidableEq, Repr, Inhabited
def At.get (ρ : Env) : At → V
  | .r q => q.get ρ
  | .int k z => ⟨.int k, z⟩
  | .bool b => ⟨.bool, b⟩
  | .nil t => ⟨t, t.dflt⟩
def At.ty (ts : List Ty) : At → Option Ty
  | .r q => match ts[q.n]? with | some t => t.proj q.p | none => none
  | .int k _ => some (.int k)
  | .bool _ => some .bool
  | .nil t => some t

/-- Within the environment's first n places. -/
def At.lt (n : Nat) : At → Bool
  | .r q => Nat.blt q.n n
  | _ => true

/-! ### What the expressions compute, on plain data -/
def wrap (k : IntKind) (z : Int) : Int := k.wrap z
def gget {α : Type} (d : α) (xs : List α) (i : Int) : Option α := if 0 ≤ i ∧ i < (xs.length : Int) then some (xs.getD i.toNat d) else none
def gset {α : Type} (xs : List α) (i : Int) (x : α) : List α := xs.set i.toNat x
/-- In range? -/
def gin (n : Nat) (i : Int) : Option Unit := if 0 ≤ i ∧ i < (n : Int) then some () else none
def gsame (a b : Int) : Option Unit := if a = b then some () else none
/-- n elements of so many bytes fit into memory -/
def gfit (bytes n : Nat) : Bool := decide (n * bytes ≤ 140737488355328 ∧ n ≤ 140737488355328)
def gapp {α : Type} (bytes : Nat) (xs ys : List α) : Option (List α) := if gfit bytes (xs.length + ys.length) then some (xs ++ ys) else none
def gmake {α : Type} (bytes : Nat) (d : α) (n : Int) : Option (List α) := if 0 ≤ n ∧ gfit bytes n.toNat then some (List.replicate n.toNat d) else none
def gslice {α : Type} (xs : List α) (lo hi : Int) : Option (List α) := if 0 ≤ lo ∧ lo ≤ hi ∧ hi ≤ (xs.length : Int) then some ((xs.take hi.toNat).drop lo.toNat) else none
def gdiv (k : IntKind) (a b : Int) : Option Int := if b = 0 then none else some (wrap k (a.tdiv b))
def grem (a b : Int) : Option Int := if b = 0 then none else some (a.tmod b)
def gand (k : IntKind) (a b : Int) : Int := wrap k ((BitVec.ofInt k.bits a &&& BitVec.ofInt k.bits b).toNat : Int)
def gor (k : IntKind) (a b : Int) : Int := wrap k ((BitVec.ofInt k.bits a ||| BitVec.ofInt k.bits b).toNat : Int)
def gxor (k : IntKind) (a b : Int) : Int := wrap k ((BitVec.ofInt k.bits a ^^^ BitVec.ofInt k.bits b).toNat : Int)
def gshift (left : Bool) (k : IntKind) (a b : Int) : Option Int := if 0 ≤ b ∧ b < k.bits then some (bif left then wrap k (a * 2 ^ b.toNat) else a.fdiv (2 ^ b.toNat)) else none
def gnil (empty : Bool) {α : Type} (xs : List α) : Option Bool := if empty || !xs.isEmpty then some xs.isEmpty else none
def mget (m : List (Int × Bool)) (k : Int) : Bool := match m.find? (fun e => e.1 == k) with | some e => e.2 | none => false
def mset : List (Int × Bool) → Int → Bool → List (Int × Bool)
  | [], k, b => [(k, b)]
  | e :: m, k, b => if k == e.1 then (k, b) :: m else e :: mset m k b

inductive BinA where
  | add | sub | mul | and | or | xor
  deriving DecidableEq, Repr, Inhabited
inductive CmpA where
  | eq | ne | lt | le | gt | ge
  deriving DecidableEq, Repr, Inhabited
inductive Ex where
  | atom (x : At)
  | bin (op : BinA) (k : IntKind) (x y : At)
  | div (k : IntKind) (x y : At)
  | rem (k : IntKind) (x y : At)
  | shift (left : Bool) (k : IntKind) (x y : At)
  | cmp (op : CmpA) (k : IntKind) (x y : At)
  | beq (neg : Bool) (x y : At)
  | not (x : At)
  | neg (k : IntKind) (x : At)
  | conv (k k' : IntKind) (x : At)
  | len (x : At)
  | idx (x i : At)
  | same (x y : At)
  | get (x i : At)
  | set (x i y : At)
  | mk (t : Ty) (cells : List At)
  | app (bytes : Nat) (x y : At)
  | lst (e : TypeId) (t : Ty) (xs : List (List At))
  | make (bytes : Nat) (e : TypeId) (t : Ty) (n : At)
  | slice (x : At) (lo hi : Option At)
  | min (k : IntKind) (x y : At)
  | max (k : IntKind) (x y : At)
  | isnil (empty : Bool) (x : At)
  | mget (x k : At)
  | mset (x k y : At)
  | call (key : Nat) (args : List At)
  deriving Repr, Inhabited
def CmpA.den : CmpA → Int → Int → Bool
  | .eq, x, y => decide (x = y)
  | .ne, x, y => decide (x ≠ y)
  | .lt, x, y => decide (x < y)
  | .le, x, y => decide (x ≤ y)
  | .gt, x, y => decide (y < x)
  | .ge, x, y => decide (y ≤ x)
def BinA.den (k : IntKind) : BinA → Int → Int → Int
  | .add, x, y => wrap k (x + y)
  | .sub, x, y => wrap k (x - y)
  | .mul, x, y => wrap k (x * y)
  | .and, x, y => gand k x y
  | .or, x, y => gor k x y
  | .xor, x, y => gxor k x y
/-- A contract: its parameters as one value, its results as one. -/
structure FE where
  key : Nat
  p : Ty
  r : Ty
  fn : p.den → Option r.den
/-- A value put together from its cells. -/
def mkv : (t : Ty) → List V → t.den × List V
  | .int _, v :: vs => (v.int, vs)
  | .bool, v :: vs => (v.bool, vs)
  | .unit, vs => ((), vs)
  | .pr a b, vs => (((mkv a vs).1, (mkv b (mkv a vs).2).1), (mkv b (mkv a vs).2).2)
  | .sl e a, v :: vs => ((if h : v.t = .sl e a then (cast (congrArg Ty.den h) v.x : List a.den) else []), vs)
  | .mp, v :: vs => ((if h : v.t = .mp then (cast (congrArg Ty.den h) v.x : List (Int × Bool)) else []), vs)
  | t, [] => (t.dflt, [])
def V.as (t : Ty) (v : V) : t.den := if h : v.t = t then cast (congrArg Ty.den h) v.x else t.dflt
def findF (Γ : List FE) (f : Nat) : Option FE := match Γ with
  | [] => none
  | e :: Γ => if e.key = f then some e else findF Γ f
def Ex.den (Γ : List FE) {ω : Type} (ρ : Env) (K : V → Option ω) : Ex → Option ω
  | .atom x => K (x.get ρ)
  | .bin op k x y => K ⟨.int k, op.den k (x.get ρ).int (y.get ρ).int⟩
  | .div k x y => (gdiv k (x.get ρ).int (y.get ρ).int).bind fun z => K ⟨.int k, z⟩
  | .rem k x y => (grem (x.get ρ).int (y.get ρ).int).bind fun z => K ⟨.int k, z⟩
  | .shift l k x y => (gshift l k (x.get ρ).int (y.get ρ).int).bind fun z => K ⟨.int k, z⟩
  | .cmp op _ x y => K ⟨.bool, op.den (x.get ρ).int (y.get ρ).int⟩
  | .beq ng x y => K ⟨.bool, ng ^^ ((x.get ρ).bool == (y.get ρ).bool)⟩
  | .not x => K ⟨.bool, !(x.get ρ).bool⟩
  | .neg k x => K ⟨.int k, wrap k (0 - (x.get ρ).int)⟩
  | .conv _ k' x => K ⟨.int k', wrap k' (x.get ρ).int⟩
  | .len x => K ⟨.int .i64, ((x.get ρ).len : Int)⟩
  | .idx x i => (gin (x.get ρ).len (i.get ρ).int).bind fun _ => K V.u
  | .same x y => (gsame (x.get ρ).int (y.get ρ).int).bind fun _ => K V.u
  | .get x i => match x.get ρ with
    | ⟨.sl _ a, xs⟩ => (gget a.dflt xs (i.get ρ).int).bind fun y => K ⟨a, y⟩
    | _ => none
  | .set x i y => match x.get ρ with
    | ⟨.sl e a, xs⟩ => K ⟨.sl e a, gset xs (i.get ρ).int ((y.get ρ).as a)⟩
    | _ => none
  | .mk t cells => K ⟨t, (mkv t (cells.map (At.get ρ))).1⟩
  | .app bytes x y => match x.get ρ with
    | ⟨.sl e a, xs⟩ => (gapp bytes xs ((y.get ρ).as (.sl e a))).bind fun zs => K ⟨.sl e a, zs⟩
    | _ => none
  | .lst e t xs => K ⟨.sl e t, xs.map fun c => (mkv t (c.map (At.get ρ))).1⟩
  | .make bytes e t n => (gmake bytes t.dflt (n.get ρ).int).bind fun zs => K ⟨.sl e t, zs⟩
  | .slice x lo hi => match x.get ρ with
    | ⟨.sl e a, xs⟩ => (gslice xs (match lo with | some l => (l.get ρ).int | none => 0) (match hi with | some h => (h.get ρ).int | none => (xs.length : Int))).bind fun zs => K ⟨.sl e a, zs⟩
    | _ => none
  | .min k x y => K ⟨.int k, if (y.get ρ).int < (x.get ρ).int then (y.get ρ).int else (x.get ρ).int⟩
  | .max k x y => K ⟨.int k, if (x.get ρ).int < (y.get ρ).int then (y.get ρ).int else (x.get ρ).int⟩
  | .isnil empty x => match x.get ρ with
    | ⟨.sl _ _, xs⟩ => (gnil empty xs).bind fun b => K ⟨.bool, b⟩
    | _ => none
  | .mget x k => match x.get ρ with
    | ⟨.mp, m⟩ => K ⟨.bool, Pu.mget m (k.get ρ).int⟩
    | _ => none
  | .mset x k y => match x.get ρ with
    | ⟨.mp, m⟩ => K ⟨.mp, Pu.mset m (k.get ρ).int (y.get ρ).bool⟩
    | _ => none
  | .call f args => match findF Γ f with
    | some e => (e.fn (mkv e.p (args.map (At.get ρ))).1).bind fun x => K ⟨e.r, x⟩
    | none => none

inductive Stm where
  | bind (e : Ex) (s : Stm)
  | ite (c : At) (s1 s2 : Stm)
  | loop (t : Ty) (init : List At) (body : Stm)
  | join (t : Ty) (body k : Stm)
  | next (t : Ty) (xs : List At)
  | lift (s : Stm)
  | ret (t : Ty) (xs : List At)
  deriving Repr, Inhabited
@[reducible] def Out : List Ty → Ty → Type
  | [], r => r.den
  | t :: c, r => t.den ⊕ Out c r

/-! ### Loops: the least fixed point, without fuel -/
def iter {σ ω : Type} (f : σ → Option (σ ⊕ ω)) : Nat → σ → Option ω
  | 0, _ => none
  | n + 1, s => match f s with
    | some (.inl s') => iter f n s'
    | some (.inr o) => some o
    | none => none
theorem iter_mono {σ ω : Type} {f : σ → Option (σ ⊕ ω)} : ∀ {n m : Nat} {s : σ} {o : ω}, iter f n s = some o → n ≤ m → iter f m s = some o
  | 0, _, _, _, h, _ => by cases h
  | n + 1, 0, _, _, _, hm => absurd hm (Nat.not_succ_le_zero n)
  | n + 1, m + 1, s, o, h, hm => by
    unfold iter at h ⊢
    cases hf : f s with
    | none => simp [hf] at h
    | some x => cases x with
      | inl s' => simp only [hf] at h ⊢; exact iter_mono h (Nat.le_of_succ_le_succ hm)
      | inr o' => simp only [hf] at h ⊢; exact h
open Classical in
noncomputable def loop {σ ω : Type} (f : σ → Option (σ ⊕ ω)) (s : σ) : Option ω := if h : ∃ n o, iter f n s = some o then some h.choose_spec.choose else none
theorem loop_iff {σ ω : Type} {f : σ → Option (σ ⊕ ω)} {s : σ} {o : ω} : loop f s = some o ↔ ∃ n, iter f n s = some o := by
  unfold loop
  constructor
  · intro h
    split at h
    · rename_i hh
      cases h
      exact ⟨_, hh.choose_spec.choose_spec⟩
    · cases h
  · rintro ⟨n, hn⟩
    have hh : ∃ n o, iter f n s = some o := ⟨n, o, hn⟩
    rw [dif_pos hh]
    have h1 := hh.choose_spec.choose_spec
    have h2 := iter_mono h1 (Nat.le_max_left hh.choose n)
    have h3 := iter_mono hn (Nat.le_max_right hh.choose n)
    rw [h2] at h3
    exact h3
theorem loop_eq {σ ω : Type} (f : σ → Option (σ ⊕ ω)) (s : σ) : loop f s = match f s with | some (.inl s') => loop f s' | some (.inr o) => some o | none => none := by
  apply Option.ext
  intro o
  rw [loop_iff]
  cases hf : f s with
  | none =>
    simp only
    constructor
    · rintro ⟨n, hn⟩
      cases n with
      | zero => cases hn
      | succ n => simp [iter, hf] at hn
    · intro h; cases h
  | some x => cases x with
    | inl s' =>
      simp only
      rw [loop_iff]
      constructor
      · rintro ⟨n, hn⟩
        cases n with
        | zero => cases hn
        | succ n => exact ⟨n, by simpa [iter, hf] using hn⟩
      · rintro ⟨n, hn⟩
        exact ⟨n + 1, by simpa [iter, hf] using hn⟩
    | inr o' =>
      simp only
      constructor
      · rintro ⟨n, hn⟩
        cases n with
        | zero => cases hn
        | succ n => simpa [iter, hf] using hn
      · intro h
        exact ⟨1, by simpa [iter, hf] using h⟩

def joinO {α β : Type} (o : Option (α ⊕ β)) (k : α → Option β) : Option β := o.bind fun x => match x with
  | .inl a => k a
  | .inr b => some b
set_option linter.unusedVariables false in
noncomputable def Stm.den (Γ : List FE) : (c : List Ty) → (r : Ty) → Env → Stm → Option (Out c r)
  | c, r, ρ, .bind e s => e.den Γ ρ fun v => s.den Γ c r (ρ ++ [v])
  | c, r, ρ, .ite x s1 s2 => bif (x.get ρ).bool then s1.den Γ c r ρ else s2.den Γ c r ρ
  | c, r, ρ, .loop t init body => Pu.loop (fun x : t.den => body.den Γ (t :: c) r (ρ ++ [⟨t, x⟩])) (mkv t (init.map (At.get ρ))).1
  | c, r, ρ, .join t body k => joinO (body.den Γ (t :: c) r ρ) fun x => k.den Γ c r (ρ ++ [⟨t, x⟩])
  | t' :: c, r, ρ, .next t xs => if h : t = t' then some (.inl (h ▸ (mkv t (xs.map (At.get ρ))).1)) else none
  | _ :: c, r, ρ, .lift s => (s.den Γ c r ρ).map .inr
  | [], r, ρ, .ret t xs => if h : t = r then some (h ▸ (mkv t (xs.map (At.get ρ))).1) else none
  | [], _, _, .next _ _ => none
  | [], _, _, .lift _ => none
  | _ :: _, _, _, .ret _ _ => none
end Go.Pu
