/-
  Own work. Flat memory: what a slot or a cell holds, rows that the call owns (each by its place: a root and a path), regions that are only read; how they stand to the machine's memory.
-/
import Derived.Test.YtamaghlnjchhbaaPuA
import Derived.WalkKit
namespace Go.Pu
open Go Go.RowKit

abbrev Loc := Nat × List (Nat × Nat)
abbrev Rg := Option Nat
inductive C where
  | int (k : IntKind) (z : Int)
  | bool (b : Bool)
  | nil
  | ro (rg : Rg) (els : List (List C))
  | rp (rg : Rg) (cells : List C)
  | hd (l : Loc)
  | fn (f : FuncId) (caps : List C)
  | sub (l : Loc) (s lo n : Nat)
  | both (x y : C)
  | gone
structure G where
  S : Nat → Prop
  own : Nat → Option Loc
  hdr : Loc → Value
def G.reg (g : G) : Rg → Nat → Prop
  | none, b => g.S b
  | some r, b => g.S b ∨ ∃ p, g.own b = some (r, p)
def szOf (P : Program) (e : TypeId) : Nat := match P.info? e with | some i => i.size | none => 0

/-- A slice's header, resliced. -/
def subHdr (v : Value) (s lo n : Nat) : Value := match v with
  | .slice a _ cap => .slice (if cap = lo then a else a.map (·.add (lo * s))) n (cap - lo)
  | v => v
inductive CRep (w : World) (g : G) : C → Value → Prop
  | int (k : IntKind) (z : Int) : CRep w g (.int k z) (.int k z)
  | bool (b : Bool) : CRep w g (.bool b) (.bool b)
  | nil : CRep w g .nil (.slice none 0 0)
  | gone (v : Value) : CRep w g .gone v
  | ro0 (rg : Rg) (a : Option Addr) (cap : Nat) : CRep w g (.ro rg []) (.slice a 0 cap)
  | ro (rg : Rg) (els : List (List C)) (b off n cap s : Nat) (f : Nat → Nat → Value) (hn : n = els.length) (hc : n ≤ cap) (hm : cap ≤ maxLen) (hS : g.reg rg b) (hs : 0 < s)
      (hsz : ∀ (i : Nat) (cs : List C), els[i]? = some cs → cs.length = s)
      (hcell : ∀ (i : Nat) (cs : List C) (k : Nat) (x : C), els[i]? = some cs → cs[k]? = some x → w.cell? ⟨b, off + (i * s + k), none⟩ = some (f i k))
      (hrep : ∀ (i : Nat) (cs : List C) (k : Nat) (x : C), els[i]? = some cs → cs[k]? = some x → CRep w g x (f i k)) :
      CRep w g (.ro rg els) (.slice (some ⟨b, off, none⟩) n cap)
  | rp (rg : Rg) (cells : List C) (b off : Nat) (f : Nat → Value) (hS : g.reg rg b)
      (hcell : ∀ (k : Nat) (x : C), cells[k]? = some x → w.cell? ⟨b, off + k, none⟩ = some (f k))
      (hrep : ∀ (k : Nat) (x : C), cells[k]? = some x → CRep w g x (f k)) :
      CRep w g (.rp rg cells) (.pointer (some ⟨b, off, none⟩))
  | hd (l : Loc) (v : Value) (hv : v = g.hdr l) : CRep w g (.hd l) v
  | fn (f : FuncId) (caps : List C) (vs : Array Value) (hs : vs.size = caps.length) (hrep : ∀ (k : Nat) (x : C), caps[k]? = some x → CRep w g x (vs.getD k undef)) : CRep w g (.fn f caps) (.func (.func f) #[] vs)
  | sub (l : Loc) (s lo n : Nat) (v : Value) (hv : v = subHdr (g.hdr l) s lo n) : CRep w g (.sub l s lo n) v
  | both (x y : C) (v : Value) (hx : CRep w g x v) (hy : CRep w g y v) : CRep w g (.both x y) v

/-- Which places and which regions a cell speaks of. -/
inductive C.Ok (pl : Loc → Prop) (pr : Rg → Prop) : C → Prop
  | int (k : IntKind) (z : Int) : C.Ok pl pr (.int k z)
  | bool (b : Bool) : C.Ok pl pr (.bool b)
  | nil : C.Ok pl pr .nil
  | gone : C.Ok pl pr .gone
  | ro (rg : Rg) (els : List (List C)) (hr : els ≠ [] → pr rg) (h : ∀ (i : Nat) (cs : List C) (k : Nat) (x : C), els[i]? = some cs → cs[k]? = some x → C.Ok pl pr x) : C.Ok pl pr (.ro rg els)
  | rp (rg : Rg) (cells : List C) (hr : pr rg) (h : ∀ (k : Nat) (x : C), cells[k]? = some x → C.Ok pl pr x) : C.Ok pl pr (.rp rg cells)
  | hd (l : Loc) (h : pl l) : C.Ok pl pr (.hd l)
  | fn (f : FuncId) (caps : List C) (h : ∀ (k : Nat) (x : C), caps[k]? = some x → C.Ok pl pr x) : C.Ok pl pr (.fn f caps)
  | sub (l : Loc) (s lo n : Nat) (h : pl l) : C.Ok pl pr (.sub l s lo n)
  | both (x y : C) (hx : C.Ok pl pr x) (hy : C.Ok pl pr y) : C.Ok pl pr (.both x y)
theorem C.Ok.mono {pl pl' : Loc → Prop} {pr pr' : Rg → Prop} {x : C} (h : C.Ok pl pr x) (hl : ∀ l, pl l → pl' l) (hr : ∀ r, pr r → pr' r) : C.Ok pl' pr' x := by
  induction h with
  | int => exact .int _ _
  | bool => exact .bool _
  | nil => exact .nil
  | gone => exact .gone
  | ro rg els h1 _ ih => exact .ro rg els (fun h => hr _ (h1 h)) ih
  | rp rg cells h1 _ ih => exact .rp rg cells (hr _ h1) ih
  | hd l h => exact .hd l (hl l h)
  | fn f caps _ ih => exact .fn f caps ih
  | sub l s lo n h => exact .sub l s lo n (hl l h)
  | both x y _ _ ih1 ih2 => exact .both x y ih1 ih2

/-- Carried to another world and other ghosts. -/
theorem CRep.keep {w w' : World} {g g' : G} {pl : Loc → Prop} {pr : Rg → Prop} {x : C} {v : Value} (h : CRep w g x v) (hl : ∀ l, pl l → g'.hdr l = g.hdr l) (hr : ∀ rg, pr rg → ∀ b, g.reg rg b → g'.reg rg b ∧ w'.heap[b]? = w.heap[b]?) :
    C.Ok pl pr x → CRep w' g' x v := by
  induction h with
  | int k z => exact fun _ => .int k z
  | bool b => exact fun _ => .bool b
  | nil => exact fun _ => .nil
  | gone v => exact fun _ => .gone v
  | ro0 rg a cap => exact fun _ => .ro0 rg a cap
  | ro rg els b off n cap s f hn hc hm hS hs hsz hcell hrep ih =>
    intro ho
    cases ho with
    | ro _ _ h1 h2 =>
      by_cases he : els = []
      · subst he; subst hn; exact .ro0 rg _ _
      · have hb := hr rg (h1 he) b hS
        exact .ro rg els b off n cap s f hn hc hm hb.1 hs hsz (fun i cs k x q1 q2 => by rw [World.cell?_of_block (w := w) hb.2]; exact hcell i cs k x q1 q2) (fun i cs k x q1 q2 => ih i cs k x q1 q2 (h2 i cs k x q1 q2))
  | rp rg cells b off f hS hcell hrep ih =>
    intro ho
    cases ho with
    | rp _ _ h1 h2 =>
      have hb := hr rg h1 b hS
      exact .rp rg cells b off f hb.1 (fun k x q => by rw [World.cell?_of_block (w := w) hb.2]; exact hcell k x q) (fun k x q => ih k x q (h2 k x q))
  | hd l v hv =>
    intro ho
    cases ho with
    | hd _ h1 => exact .hd l v (hv.trans (hl l h1).symm)
  | fn f caps vs hs hrep ih =>
    intro ho
    cases ho with
    | fn _ _ h1 => exact .fn f caps vs hs (fun k x q => ih k x q (h1 k x q))
  | sub l s lo n v hv =>
    intro ho
    cases ho with
    | sub _ _ _ _ h1 => exact .sub l s lo n v (by rw [hl l h1]; exact hv)
  | both x y v _ _ ih1 ih2 =>
    intro ho
    cases ho with
    | both _ _ h1 h2 => exact .both x y v (ih1 h1) (ih2 h2)

inductive Row where
  | row (bx nl : Bool) (e : TypeId) (els : List (List C))
  | mp (kvs : List (Int × Bool))

def hdrOf (bx : Bool) (b base n cap : Nat) : Value := bif bx then .pointer (some ⟨b, base, none⟩) else .slice (some ⟨b, base, none⟩) n cap
structure RowFull (P : Program) (w : World) (g : G) (l : Loc) (bx nl : Bool) (e : TypeId) (els : List (List C)) (b base n cap : Nat) (cs : Array Value) (f : Nat → Nat → Value) : Prop where
  hd : g.hdr l = hdrOf bx b base n cap
  own : g.own b = some l
  heap : w.heap[b]? = some (.cells cs e (0, 0))
  len : n = els.length
  hcap : n ≤ cap
  hmax : cap ≤ maxLen
  fit : base + cap * szOf P e = cs.size
  pos : 0 < szOf P e
  size : ∀ (i : Nat) (c : List C), els[i]? = some c → c.length = szOf P e
  cell : ∀ (i : Nat) (c : List C) (k : Nat) (x : C), els[i]? = some c → c[k]? = some x → cs[base + (i * szOf P e + k)]? = some (f i k)
  rep : ∀ (i : Nat) (c : List C) (k : Nat) (x : C), els[i]? = some c → c[k]? = some x → CRep w g x (f i k)
  nonil : nl = true → els ≠ []
inductive RowRep (P : Program) (w : World) (g : G) (l : Loc) : Row → Prop
  | nil (nl : Bool) (e : TypeId) (hd : g.hdr l = .slice none 0 0) : RowRep P w g l (.row false nl e [])
  | zero (e : TypeId) (a : Addr) (hd : g.hdr l = .slice (some a) 0 0) : RowRep P w g l (.row false false e [])
  | full (bx nl : Bool) (e : TypeId) (els : List (List C)) (b base n cap : Nat) (cs : Array Value) (f : Nat → Nat → Value) (h : RowFull P w g l bx nl e els b base n cap cs f) : RowRep P w g l (.row bx nl e els)
  | mp (kvs : List (Int × Bool)) (b clk : Nat) (es : Array MapEntry) (hd : g.hdr l = .map (some b)) (own : g.own b = some l) (heap : w.heap[b]? = some (.map es clk))
      (hes : es.toList.map (fun e => (e.key, e.val)) = kvs.map (fun kv => (Value.int .i64 kv.1, Value.bool kv.2))) : RowRep P w g l (.mp kvs)
def Row.Ok (pl : Loc → Prop) (pr : Rg → Prop) : Row → Prop
  | .row _ _ _ els => ∀ (i : Nat) (cs : List C) (k : Nat) (x : C), els[i]? = some cs → cs[k]? = some x → C.Ok pl pr x
  | .mp _ => True
theorem RowFull.keep {P : Program} {w w' : World} {g g' : G} {pl : Loc → Prop} {pr : Rg → Prop} {l : Loc} {bx nl : Bool} {e : TypeId} {els : List (List C)} {b base n cap : Nat} {cs : Array Value} {f : Nat → Nat → Value}
    (h : RowFull P w g l bx nl e els b base n cap cs f) (hl : ∀ l, pl l → g'.hdr l = g.hdr l) (hr : ∀ rg, pr rg → ∀ b, g.reg rg b → g'.reg rg b ∧ w'.heap[b]? = w.heap[b]?)
    (h0 : g'.hdr l = g.hdr l) (hb : ∀ b, g.own b = some l → g'.own b = some l ∧ w'.heap[b]? = w.heap[b]?) (hx : Row.Ok pl pr (.row bx nl e els)) : RowFull P w' g' l bx nl e els b base n cap cs f :=
  ⟨h0.trans h.hd, (hb b h.own).1, (hb b h.own).2.trans h.heap, h.len, h.hcap, h.hmax, h.fit, h.pos, h.size, h.cell, fun i c k x q1 q2 => (h.rep i c k x q1 q2).keep hl hr (hx i c k x q1 q2), h.nonil⟩
theorem RowRep.keep {P : Program} {w w' : World} {g g' : G} {pl : Loc → Prop} {pr : Rg → Prop} {l : Loc} {row : Row}
    (h : RowRep P w g l row) (hl : ∀ l, pl l → g'.hdr l = g.hdr l) (hr : ∀ rg, pr rg → ∀ b, g.reg rg b → g'.reg rg b ∧ w'.heap[b]? = w.heap[b]?)
    (h0 : g'.hdr l = g.hdr l) (hb : ∀ b, g.own b = some l → g'.own b = some l ∧ w'.heap[b]? = w.heap[b]?) (hx : Row.Ok pl pr row) : RowRep P w' g' l row := by
  cases h with
  | nil nl e hd => exact .nil nl e (h0.trans hd)
  | zero e a hd => exact .zero e a (h0.trans hd)
  | full bx nl e els b base n cap cs f h => exact .full bx nl e els b base n cap cs f (h.keep hl hr h0 hb hx)
  | mp kvs b clk es hd own heap hes => exact .mp kvs b clk es (h0.trans hd) (hb b own).1 ((hb b own).2.trans heap) hes

/-! ### Slots -/
inductive R where
  | one (x : C)
  | agg (xs : List C)
inductive PV where
  | c (x : C)
  | agg (xs : List C)
  | ad (l : Loc) (e : TypeId) (i k : Nat)
  | ra (rg : Rg) (cells : List C)
  | tup (rs : List R)
  | und
  | junk
def hdrAt (v : Value) (b base : Nat) : Prop := (∃ n cap, v = .slice (some ⟨b, base, none⟩) n cap) ∨ v = .pointer (some ⟨b, base, none⟩)
def AggRep (w : World) (g : G) (xs : List C) (v : Value) : Prop := ∃ vs : Array Value, v = .agg vs ∧ vs.size = xs.length ∧ ∀ (k : Nat) (x : C), xs[k]? = some x → ∃ u, vs[k]? = some u ∧ CRep w g x u
def RRep (w : World) (g : G) : R → Value → Prop
  | .one x, v => CRep w g x v
  | .agg xs, v => AggRep w g xs v
def PRep (P : Program) (w : World) (g : G) : PV → Value → Prop
  | .c x, v => CRep w g x v
  | .agg xs, v => AggRep w g xs v
  | .ad l e i k, v => ∃ b base, hdrAt (g.hdr l) b base ∧ v = .pointer (some ⟨b, base + (i * szOf P e + k), none⟩)
  | .ra rg cells, v => ∃ b off, ∃ f : Nat → Value, g.reg rg b ∧ v = .pointer (some ⟨b, off, none⟩) ∧ ∀ (k : Nat) (x : C), cells[k]? = some x → w.cell? ⟨b, off + k, none⟩ = some (f k) ∧ CRep w g x (f k)
  | .tup rs, v => ∃ vs : Array Value, v = .tuple vs ∧ vs.size = rs.length ∧ ∀ (k : Nat) (r : R), rs[k]? = some r → ∃ u, vs[k]? = some u ∧ RRep w g r u
  | .und, v => v = undef
  | .junk, _ => True
def AllOk (pl : Loc → Prop) (pr : Rg → Prop) (xs : List C) : Prop := ∀ (k : Nat) (x : C), xs[k]? = some x → C.Ok pl pr x
def R.Ok (pl : Loc → Prop) (pr : Rg → Prop) : R → Prop
  | .one x => C.Ok pl pr x
  | .agg xs => AllOk pl pr xs
def PV.Ok (pl : Loc → Prop) (pr : Rg → Prop) : PV → Prop
  | .c x => C.Ok pl pr x
  | .agg xs => AllOk pl pr xs
  | .ad l _ _ _ => pl l
  | .ra rg cells => pr rg ∧ AllOk pl pr cells
  | .tup rs => ∀ (k : Nat) (r : R), rs[k]? = some r → R.Ok pl pr r
  | .und => True
  | .junk => True
section
variable {P : Program} {w w' : World} {g g' : G} {pl : Loc → Prop} {pr : Rg → Prop}
theorem AggRep.keep {xs : List C} {v : Value} (h : AggRep w g xs v) (hl : ∀ l, pl l → g'.hdr l = g.hdr l) (hr : ∀ rg, pr rg → ∀ b, g.reg rg b → g'.reg rg b ∧ w'.heap[b]? = w.heap[b]?) (hx : AllOk pl pr xs) : AggRep w' g' xs v := by
  obtain ⟨vs, h1, h2, h3⟩ := h
  refine ⟨vs, h1, h2, fun k x q => ?_⟩
  obtain ⟨u, hu, hc⟩ := h3 k x q
  exact ⟨u, hu, hc.keep hl hr (hx k x q)⟩
theorem RRep.keep {r : R} {v : Value} (h : RRep w g r v) (hl : ∀ l, pl l → g'.hdr l = g.hdr l) (hr : ∀ rg, pr rg → ∀ b, g.reg rg b → g'.reg rg b ∧ w'.heap[b]? = w.heap[b]?) (hx : R.Ok pl pr r) : RRep w' g' r v := by
  cases r with
  | one x => exact CRep.keep h hl hr hx
  | agg xs => exact AggRep.keep h hl hr hx
theorem PRep.keep {p : PV} {v : Value} (h : PRep P w g p v) (hl : ∀ l, pl l → g'.hdr l = g.hdr l) (hr : ∀ rg, pr rg → ∀ b, g.reg rg b → g'.reg rg b ∧ w'.heap[b]? = w.heap[b]?) (hx : PV.Ok pl pr p) : PRep P w' g' p v := by
  cases p with
  | c x => exact CRep.keep h hl hr hx
  | agg xs => exact AggRep.keep h hl hr hx
  | ad l e i k =>
    obtain ⟨b, base, h1, h2⟩ := h
    exact ⟨b, base, by rw [hl l hx]; exact h1, h2⟩
  | ra rg cells =>
    obtain ⟨b, off, f, h1, h2, h3⟩ := h
    have hb := hr rg hx.1 b h1
    exact ⟨b, off, f, hb.1, h2, fun k x q => ⟨by rw [World.cell?_of_block (w := w) hb.2]; exact (h3 k x q).1, (h3 k x q).2.keep hl hr (hx.2 k x q)⟩⟩
  | tup rs =>
    obtain ⟨vs, h1, h2, h3⟩ := h
    refine ⟨vs, h1, h2, fun k r q => ?_⟩
    obtain ⟨u, hu, hc⟩ := h3 k r q
    exact ⟨u, hu, hc.keep hl hr (hx k r q)⟩
  | und => exact h
  | junk => trivial
end

/-! ### The invariant -/
/-- Below B, and outside the given blocks, all is as it was. -/
structure Chg (O : Nat → Prop) (B : Nat) (w w' : World) : Prop where
  os : w'.os = w.os
  tape : w'.tape = w.tape
  output : w'.output = w.output
  size : w.heap.size ≤ w'.heap.size
  block : ∀ k, k < B → ¬ O k → w'.heap[k]? = w.heap[k]?
theorem Chg.refl (O : Nat → Prop) (B : Nat) (w : World) : Chg O B w w := ⟨rfl, rfl, rfl, Nat.le_refl _, fun _ _ _ => rfl⟩
theorem Chg.trans {O : Nat → Prop} {B : Nat} {a b c : World} (h : Chg O B a b) (k : Chg O B b c) : Chg O B a c :=
  ⟨k.os.trans h.os, k.tape.trans h.tape, k.output.trans h.output, Nat.le_trans h.size k.size, fun i hi ho => (k.block i hi ho).trans (h.block i hi ho)⟩
theorem Chg.of {O O' : Nat → Prop} {B B' : Nat} {a b : World} (h : Chg O' B' a b) (hB : ∀ k, k < B → ¬ O k → k < B' ∧ ¬ O' k) : Chg O B a b :=
  ⟨h.os, h.tape, h.output, h.size, fun k hk ho => h.block k (hB k hk ho).1 (hB k hk ho).2⟩
theorem Chg.lat {w w' : World} (h : Chg (fun _ => False) w.heap.size w w') : Lat w w' := ⟨h.os, h.tape, h.output, h.size, fun k hk => h.block k hk id⟩
theorem Chg.of_lat {O : Nat → Prop} {B : Nat} {w w' : World} (h : Lat w w') (hB : B ≤ w.heap.size) : Chg O B w w' := ⟨h.os, h.tape, h.output, h.size, fun k hk _ => h.block k (by omega)⟩

structure Ctx where
  P : Program
  N : Nat
  B0 : Nat
  w0 : World
  S0 : Nat → Prop
  O0 : Nat → Prop
  h0 : Nat → Value
structure GOK (X : Ctx) (g : G) (w : World) : Prop where
  chg : Chg X.O0 X.B0 X.w0 w
  base : X.B0 ≤ w.heap.size
  S : ∀ b, g.S b → b < w.heap.size ∧ (X.S0 b ∨ X.B0 ≤ b)
  own : ∀ b l, g.own b = some l → (X.O0 b ∨ X.B0 ≤ b) ∧ b < w.heap.size ∧ ¬ g.S b
abbrev Frame := Nat → PV
abbrev Rows := Loc → Option Row
structure InvG (X : Ctx) (fr : Frame) (rs : Rows) (a : Act) (w : World) (g : G) : Prop where
  size : a.tmps.size = X.N
  nodef : a.defers = []
  ok : GOK X g w
  slot : ∀ s, PRep X.P w g (fr s) (a.tmps.getD s undef)
  row : ∀ l row, rs l = some row → RowRep X.P w g l row
def Inv (X : Ctx) (fr : Frame) (rs : Rows) (a : Act) (w : World) : Prop := ∃ g, InvG X fr rs a w g

/-- The law of every step: a new value in slot d, a new world, new ghosts. -/
theorem InvG.next {X : Ctx} {fr fr' : Frame} {rs rs' : Rows} {a a' : Act} {w w' : World} {g g' : G} (h : InvG X fr rs a w g) (pl : Loc → Prop) (pr : Rg → Prop)
    (hl : ∀ l, pl l → g'.hdr l = g.hdr l) (hr : ∀ rg, pr rg → ∀ b, g.reg rg b → g'.reg rg b ∧ w'.heap[b]? = w.heap[b]?) (hok : GOK X g' w')
    (hsz : a'.tmps.size = a.tmps.size) (hdf : a'.defers = a.defers)
    (hslot : ∀ s, (fr' s = .junk) ∨ (fr' s = fr s ∧ a'.tmps.getD s undef = a.tmps.getD s undef ∧ PV.Ok pl pr (fr s)) ∨ PRep X.P w' g' (fr' s) (a'.tmps.getD s undef))
    (hrow : ∀ l row, rs' l = some row → (rs l = some row ∧ pl l ∧ Row.Ok pl pr row ∧ ∀ b, g.own b = some l → g'.own b = some l ∧ w'.heap[b]? = w.heap[b]?) ∨ RowRep X.P w' g' l row) :
    InvG X fr' rs' a' w' g' := by
  refine ⟨hsz.trans h.size, hdf.trans h.nodef, hok, fun s => ?_, fun l row hlr => ?_⟩
  · rcases hslot s with e | ⟨e1, e2, e3⟩ | e
    · rw [e]; trivial
    · rw [e1, e2]; exact (h.slot s).keep hl hr e3
    · exact e
  · rcases hrow l row hlr with ⟨e1, e2, e3, e4⟩ | e
    · exact (h.row l row e1).keep hl hr (hl l e2) e4 e3
    · exact e
end Go.Pu
