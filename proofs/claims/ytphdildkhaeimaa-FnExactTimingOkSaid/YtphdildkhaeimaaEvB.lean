/-
  Own work. Pure frames for a function's body: ints, bools, lists that are only read, and lists and boxes that the call itself made and owns (trees); how they stand to the machine's memory.
-/
import Derived.Test.YtphdildkhaeimaaEvA
import Derived.WalkKit
namespace Go.Ev
open Go Go.RowKit

inductive T where
  | int (z : Int)
  | bool (b : Bool)
  | ro (els : List (List T))
  | own (bx : Bool) (e : TypeId) (els : List (List T))
  | nil
  | rptr (cells : List T)
  | gone

abbrev Path := List (Nat × Nat)
abbrev Loc := Nat × Path

structure G where
  S : Nat → Prop
  own : Nat → Option Loc
  hdr : Loc → Value

def szOf (P : Program) (e : TypeId) : Nat := match P.info? e with | some i => i.size | none => 0

/-- What is only read: it lies in blocks of S. -/
inductive IRep (w : World) (S : Nat → Prop) : T → Value → Prop
  | int (z : Int) : IRep w S (.int z) (.int .i64 z)
  | bool (b : Bool) : IRep w S (.bool b) (.bool b)
  | nil : IRep w S .nil (.slice none 0 0)
  | gone (v : Value) : IRep w S .gone v
  | ro0 (a : Option Addr) (cap : Nat) : IRep w S (.ro []) (.slice a 0 cap)
  | ro (els : List (List T)) (b off n cap s : Nat) (f : Nat → Nat → Value) (hn : n = els.length) (hc : n ≤ cap) (hm : cap ≤ maxLen) (hS : S b) (hs : 0 < s)
      (hsz : ∀ (i : Nat) (cs : List T), els[i]? = some cs → cs.length = s)
      (hcell : ∀ (i : Nat) (cs : List T) (k : Nat) (x : T), els[i]? = some cs → cs[k]? = some x → w.cell? ⟨b, off + (i * s + k), none⟩ = some (f i k))
      (hrep : ∀ (i : Nat) (cs : List T) (k : Nat) (x : T), els[i]? = some cs → cs[k]? = some x → IRep w S x (f i k)) :
      IRep w S (.ro els) (.slice (some ⟨b, off, none⟩) n cap)
  | rptr (cells : List T) (b off : Nat) (f : Nat → Value) (hS : S b)
      (hcell : ∀ (k : Nat) (x : T), cells[k]? = some x → w.cell? ⟨b, off + k, none⟩ = some (f k))
      (hrep : ∀ (k : Nat) (x : T), cells[k]? = some x → IRep w S x (f k)) :
      IRep w S (.rptr cells) (.pointer (some ⟨b, off, none⟩))

/-- What a slot holds: what is only read, or an owned tree. -/
inductive Rep (P : Program) (w : World) (g : G) : Loc → T → Value → Prop
  | im (l : Loc) (x : T) (v : Value) (h : IRep w g.S x v) : Rep P w g l x v
  | own0 (l : Loc) (e : TypeId) (v : Value) (hd : g.hdr l = v) (h : v = .slice none 0 0 ∨ ∃ a, v = .slice (some a) 0 0) : Rep P w g l (.own false e []) v
  | own (l : Loc) (bx : Bool) (e : TypeId) (els : List (List T)) (b base n cap : Nat) (cs : Array Value) (f : Nat → Nat → Value) (v : Value)
      (hv : v = if bx then .pointer (some ⟨b, base, none⟩) else .slice (some ⟨b, base, none⟩) n cap) (hd : g.hdr l = v) (ho : g.own b = some l)
      (hh : w.heap[b]? = some (.cells cs e (0, 0))) (hn : n = els.length) (hc : n ≤ cap) (hm : cap ≤ maxLen) (hcs : base + cap * szOf P e = cs.size) (hs : 0 < szOf P e)
      (hsz : ∀ (i : Nat) (c : List T), els[i]? = some c → c.length = szOf P e)
      (hcell : ∀ (i : Nat) (c : List T) (k : Nat) (x : T), els[i]? = some c → c[k]? = some x → cs[base + (i * szOf P e + k)]? = some (f i k))
      (hrep : ∀ (i : Nat) (c : List T) (k : Nat) (x : T), els[i]? = some c → c[k]? = some x → Rep P w g (l.1, l.2 ++ [(i, k)]) x (f i k)) :
      Rep P w g l (.own bx e els) v

theorem IRep.keep {w w' : World} {S S' : Nat → Prop} {x : T} {v : Value} (h : IRep w S x v) (hS : ∀ b, S b → S' b ∧ w'.heap[b]? = w.heap[b]?) : IRep w' S' x v := by
  induction h with
  | int z => exact .int z
  | bool b => exact .bool b
  | nil => exact .nil
  | gone v => exact .gone v
  | ro0 a cap => exact .ro0 a cap
  | ro els b off n cap s f hn hc hm hb hs hsz hcell hrep ih =>
    exact .ro els b off n cap s f hn hc hm (hS b hb).1 hs hsz (fun i cs k x h1 h2 => by rw [World.cell?_of_block (w := w) (hS b hb).2]; exact hcell i cs k x h1 h2) ih
  | rptr cells b off f hb hcell hrep ih =>
    exact .rptr cells b off f (hS b hb).1 (fun k x h1 => by rw [World.cell?_of_block (w := w) (hS b hb).2]; exact hcell k x h1) ih

/-- Carried to another world, other ghosts, another place. -/
theorem Rep.move {P : Program} {w w' : World} {g g' : G} {l : Loc} {x : T} {v : Value} (h : Rep P w g l x v) : ∀ (l' : Loc) (_hS : ∀ b, g.S b → g'.S b ∧ w'.heap[b]? = w.heap[b]?)
    (_ho : ∀ b q, g.own b = some (l.1, l.2 ++ q) → g'.own b = some (l'.1, l'.2 ++ q) ∧ w'.heap[b]? = w.heap[b]?)
    (_hh : ∀ q, g'.hdr (l'.1, l'.2 ++ q) = g.hdr (l.1, l.2 ++ q)), Rep P w' g' l' x v := by
  induction h with
  | im l x v h => exact fun l' hS _ _ => .im l' x v (h.keep hS)
  | own0 l e v hd h => exact fun l' _ _ hh => .own0 l' e v (by have := hh []; simp only [List.append_nil] at this; exact this.trans hd) h
  | own l bx e els b base n cap cs f v hv hd hb hh0 hn hc hm hcs hs hsz hcell hrep ih =>
    intro l' hS ho hh
    have h1 := ho b [] (by simpa using hb)
    simp only [List.append_nil] at h1
    refine .own l' bx e els b base n cap cs f v hv (by have := hh []; simp only [List.append_nil] at this; exact this.trans hd) h1.1 (h1.2.trans hh0) hn hc hm hcs hs hsz hcell ?_
    intro i c k x h2 h3
    exact ih i c k x h2 h3 (l'.1, l'.2 ++ [(i, k)]) hS (fun b q hq => by simpa using ho b ((i, k) :: q) (by simpa using hq)) (fun q => by simpa using hh ((i, k) :: q))

inductive R where
  | one (x : T)
  | agg (xs : List T)

inductive PV where
  | t (x : T)
  | agg (xs : List T)
  | al (s : Nat) (p : Path)
  | addr (e : TypeId) (s : Nat) (p : Path) (i k : Nat)
  | roaddr (cells : List T)
  | tup (rs : List R)
  | fn (f : FuncId) (caps : List PV)
  | und
  | junk

abbrev Frame := Nat → PV
def upd (fr : Frame) (d : Nat) (v : PV) : Frame := fun j => bif Nat.beq j d then v else fr j
/-- Other slots' handles on what slot d holds are struck. -/
def killPV (d : Nat) : PV → PV
  | .al s p => bif Nat.beq s d then .junk else .al s p
  | .addr e s p i k => bif Nat.beq s d then .junk else .addr e s p i k
  | p => p
def place (fr : Frame) (d : Nat) (v : PV) : Frame := fun j => bif Nat.beq j d then v else killPV d (fr j)

def T.imm : T → Bool
  | .own .. | .gone => false
  | _ => true

def RepAgg (P : Program) (w : World) (g : G) (l : Loc) (xs : List T) (v : Value) : Prop :=
  ∃ vs : Array Value, v = .agg vs ∧ vs.size = xs.length ∧ ∀ (k : Nat) (x : T), xs[k]? = some x → ∃ u, vs[k]? = some u ∧ Rep P w g (l.1, l.2 ++ [(0, k)]) x u
def RepR (P : Program) (w : World) (g : G) (l : Loc) : R → Value → Prop
  | .one x, v => Rep P w g l x v
  | .agg xs, v => RepAgg P w g l xs v
def hdrAt (v : Value) (b base : Nat) : Prop := (∃ n cap, v = .slice (some ⟨b, base, none⟩) n cap) ∨ v = .pointer (some ⟨b, base, none⟩)

def PRep (P : Program) (w : World) (g : G) (s : Nat) : PV → Value → Prop
  | .t x, v => Rep P w g (s, []) x v
  | .agg xs, v => RepAgg P w g (s, []) xs v
  | .al s' p, v => v = g.hdr (s', p)
  | .addr e s' p i k, v => ∃ b base, hdrAt (g.hdr (s', p)) b base ∧ v = .pointer (some ⟨b, base + (i * szOf P e + k), none⟩)
  | .roaddr cells, v => ∃ b off, ∃ f : Nat → Value, g.S b ∧ v = .pointer (some ⟨b, off, none⟩) ∧ ∀ (k : Nat) (x : T), cells[k]? = some x → w.cell? ⟨b, off + k, none⟩ = some (f k) ∧ IRep w g.S x (f k)
  | .tup rs, v => ∃ vs : Array Value, v = .tuple vs ∧ vs.size = rs.length ∧ ∀ (k : Nat) (r : R), rs[k]? = some r → ∃ u, vs[k]? = some u ∧ RepR P w g (s, [(k, 0)]) r u
  | .fn f caps, v => caps = [] ∧ v = .func (.func f) #[] #[]
  | .und, v => v = undef
  | .junk, _ => True

theorem RepAgg.move {P : Program} {w w' : World} {g g' : G} {l : Loc} {xs : List T} {v : Value} (h : RepAgg P w g l xs v) (l' : Loc) (hS : ∀ b, g.S b → g'.S b ∧ w'.heap[b]? = w.heap[b]?)
    (ho : ∀ b q, g.own b = some (l.1, l.2 ++ q) → g'.own b = some (l'.1, l'.2 ++ q) ∧ w'.heap[b]? = w.heap[b]?)
    (hh : ∀ q, g'.hdr (l'.1, l'.2 ++ q) = g.hdr (l.1, l.2 ++ q)) : RepAgg P w' g' l' xs v := by
  obtain ⟨vs, h1, h2, h3⟩ := h
  refine ⟨vs, h1, h2, fun k x hx => ?_⟩
  obtain ⟨u, hu, hr⟩ := h3 k x hx
  exact ⟨u, hu, hr.move _ hS (fun b q hq => by simpa using ho b ((0, k) :: q) (by simpa using hq)) (fun q => by simpa using hh ((0, k) :: q))⟩
theorem RepR.move {P : Program} {w w' : World} {g g' : G} {l : Loc} {r : R} {v : Value} (h : RepR P w g l r v) (l' : Loc) (hS : ∀ b, g.S b → g'.S b ∧ w'.heap[b]? = w.heap[b]?)
    (ho : ∀ b q, g.own b = some (l.1, l.2 ++ q) → g'.own b = some (l'.1, l'.2 ++ q) ∧ w'.heap[b]? = w.heap[b]?)
    (hh : ∀ q, g'.hdr (l'.1, l'.2 ++ q) = g.hdr (l.1, l.2 ++ q)) : RepR P w' g' l' r v := by
  cases r with
  | one x => exact Rep.move h l' hS ho hh
  | agg xs => exact RepAgg.move h l' hS ho hh

/-- A slot's handle is kept where its own tree's blocks stand, and the headers that it names. -/
theorem PRep.keep {P : Program} {w w' : World} {g g' : G} {s : Nat} {p : PV} {v : Value} (h : PRep P w g s p v) (hS : ∀ b, g.S b → g'.S b ∧ w'.heap[b]? = w.heap[b]?)
    (ho : ∀ b q, g.own b = some (s, q) → g'.own b = some (s, q) ∧ w'.heap[b]? = w.heap[b]?) (hh : ∀ q, g'.hdr (s, q) = g.hdr (s, q))
    (ha : ∀ s' p', (p = .al s' p' ∨ ∃ e i k, p = .addr e s' p' i k) → g'.hdr (s', p') = g.hdr (s', p')) : PRep P w' g' s p v := by
  cases p with
  | t x => exact Rep.move h _ hS (fun b q hq => by simpa using ho b q (by simpa using hq)) (fun q => by simpa using hh q)
  | agg xs => exact RepAgg.move h _ hS (fun b q hq => by simpa using ho b q (by simpa using hq)) (fun q => by simpa using hh q)
  | al s' p' => exact Eq.trans h (ha s' p' (.inl rfl)).symm
  | addr e s' p' i k =>
    obtain ⟨b, base, h1, h2⟩ := h
    exact ⟨b, base, by rw [ha s' p' (.inr ⟨e, i, k, rfl⟩)]; exact h1, h2⟩
  | roaddr cells =>
    obtain ⟨b, off, f, h1, h2, h3⟩ := h
    exact ⟨b, off, f, (hS b h1).1, h2, fun k x hx => ⟨by rw [World.cell?_of_block (w := w) (hS b h1).2]; exact (h3 k x hx).1, (h3 k x hx).2.keep hS⟩⟩
  | tup rs =>
    obtain ⟨vs, h1, h2, h3⟩ := h
    refine ⟨vs, h1, h2, fun k r hr => ?_⟩
    obtain ⟨u, hu, hrr⟩ := h3 k r hr
    exact ⟨u, hu, hrr.move _ hS (fun b q hq => ho b _ hq) (fun q => hh _)⟩
  | fn f caps => exact h
  | und => exact h
  | junk => trivial

structure Ctx where
  P : Program
  N : Nat
  B0 : Nat
  w0 : World
  S0 : Nat → Prop
  pm : Nat → List Nat

structure GOK (X : Ctx) (g : G) (w : World) : Prop where
  bel : Below X.B0 X.w0 w
  base : X.B0 ≤ w.heap.size
  S : ∀ b, g.S b → b < w.heap.size ∧ (X.S0 b ∨ X.B0 ≤ b)
  own : ∀ b l, g.own b = some l → X.B0 ≤ b ∧ b < w.heap.size ∧ ¬ g.S b

structure InvG (X : Ctx) (fr : Frame) (a : Act) (w : World) (g : G) : Prop where
  size : a.tmps.size = X.N
  nodef : a.defers = []
  ok : GOK X g w
  slot : ∀ s, PRep X.P w g s (fr s) (a.tmps.getD s undef)
def Inv (X : Ctx) (fr : Frame) (a : Act) (w : World) : Prop := ∃ g, InvG X fr a w g

/- Structures, not definitions: so that no unification lays them open. -/
structure EvO (X : Ctx) (ops : Array Oper) (l : List (Oper × Bool)) (fr : Frame) (K : Frame → Prop) : Prop where
  run : ∀ a w, Inv X fr a w → LexL X.P ops (fun a' w' => ∃ fr', Inv X fr' a' w' ∧ K fr') l a w
structure Ev (X : Ctx) (c : Code) (fr : Frame) (K : Exit → Frame → Prop) : Prop where
  run : ∀ a w, Inv X fr a w → c.wp X.P (fun e a' w' => ∃ fr', Inv X fr' a' w' ∧ K e fr') a w

/-! ### Values of operands -/
def ofConst : Value → PV
  | .int .i64 z => .t (.int z)
  | .bool b => .t (.bool b)
  | .slice none 0 0 => .t .nil
  | _ => .junk
def T.view (t : Nat) (x : T) : PV := match x with
  | .own .. => .al t []
  | .gone => .junk
  | x => .t x
def val (fr : Frame) : Operand → PV
  | .tmp t => match fr t with
    | .t x => x.view t
    | .agg xs => bif xs.all T.imm then .agg xs else .junk
    | .tup _ => .junk
    | p => p
  | .const v => ofConst v
  | .func f => .fn f []
  | .global _ => .junk

theorem Rep.im' {P : Program} {w : World} {g : G} {l : Loc} {x : T} {v : Value} (h : Rep P w g l x v) (hi : x.imm = true) : IRep w g.S x v := by
  cases h with
  | im _ _ _ h => exact h
  | own0 => simp [T.imm] at hi
  | own => simp [T.imm] at hi
theorem Rep.hdr' {P : Program} {w : World} {g : G} {l : Loc} {x : T} {v : Value} (h : Rep P w g l x v) (hi : x.imm = false) (hg : x ≠ .gone) : g.hdr l = v := by
  cases h with
  | im _ _ _ h => cases h <;> first | (simp [T.imm] at hi; done) | exact absurd rfl hg
  | own0 _ _ _ hd => exact hd
  | own _ _ _ _ _ _ _ _ _ _ _ _ hd => exact hd

theorem PRep.view {P : Program} {w : World} {g : G} {t : Nat} {x : T} {v : Value} (s : Nat) (h : Rep P w g (t, []) x v) : PRep P w g s (x.view t) v := by
  cases x with
  | own bx e els => exact (Rep.hdr' h rfl (fun e => by cases e)).symm
  | gone => trivial
  | _ => exact .im _ _ _ (Rep.im' h rfl)
theorem inv_val {X : Ctx} {fr : Frame} {a : Act} {w : World} {g : G} (h : InvG X fr a w g) (s : Nat) (o : Operand) : PRep X.P w g s (Ev.val fr o) (a.eval o) := by
  cases o with
  | tmp t =>
    have hs := h.slot t
    unfold Ev.val
    simp only [Act.eval]
    cases hf : fr t with
    | t x =>
      rw [hf] at hs
      exact PRep.view s hs
    | agg xs =>
      rw [hf] at hs
      cases hi : xs.all T.imm with
      | false => simp only [hi, cond_false]; trivial
      | true =>
        simp only [hi, cond_true]
        obtain ⟨vs, h1, h2, h3⟩ := hs
        refine ⟨vs, h1, h2, fun k x hx => ?_⟩
        obtain ⟨u, hu, hr⟩ := h3 k x hx
        exact ⟨u, hu, .im _ _ _ (hr.im' (List.all_eq_true.1 hi x (List.mem_of_getElem? hx)))⟩
    | al s' p => rw [hf] at hs; exact hs
    | addr e s' p i k => rw [hf] at hs; exact hs
    | roaddr cells => rw [hf] at hs; exact hs
    | tup rs => trivial
    | fn f caps => rw [hf] at hs; exact hs
    | und => rw [hf] at hs; exact hs
    | junk => trivial
  | const v =>
    unfold Ev.val
    simp only [Act.eval]
    unfold ofConst
    split
    · exact .im _ _ _ (.int _)
    · exact .im _ _ _ (.bool _)
    · exact .im _ _ _ .nil
    · trivial
  | func f => exact ⟨rfl, rfl⟩
  | global n => trivial
end Go.Ev
