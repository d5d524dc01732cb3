/-
  Own work. Closed states and the translation of the model's code into the small typed language.
-/
import Derived.Test.YtamaghlnjchhbaaPuC
namespace Go.Pu
open Go Go.RowKit
set_option linter.unusedVariables false

abbrev M := Except String
inductive SC where
  | v (x : At)
  | s (rg : Rg) (x : At)
  | nil
  | h (r : Nat)
  | hn (r : Nat) (i : At) (k : Nat) (x : At)
  | hs (r : Nat) (lo hi : Option At) (x : At)
  | rp (rg : Rg) (cells : List SC)
  | fn (f : FuncId) (caps : List SC)
  | gone
  deriving Repr, Inhabited
inductive SV where
  | c (x : SC)
  | agg (xs : List SC)
  | ad (r : Nat) (e : TypeId) (i : At) (k : Nat)
  | ra (rg : Rg) (cells : List SC)
  | tup (rs : List (Bool × List SC))
  | und
  | junk
  deriving Repr, Inhabited
inductive RK where
  | box (e : TypeId) (cells : List SC)
  | list (e : TypeId) (a : Ty) (val : At) (nl : Bool) (inner : Option Rg)
  | listH (e : TypeId) (a : Ty) (val : At) (nl : Bool) (i : At) (k : Nat)
  | mp (val : At)
  | dead
  deriving Repr, Inhabited
structure St where
  ts : List Ty
  slots : List SV
  roots : List RK
  fix : List Nat := []
  dirty : List (Nat × Bool) := []
  deriving Repr, Inhabited

/-! ### Types of the program -/
def structTy : List (Option Ty) → Option Ty
  | [] => some .unit
  | [t] => t
  | t :: ts => match t, structTy ts with
    | some a, some b => some (.pr a b)
    | _, _ => none
def tyId (P : Program) : Nat → TypeId → Option Ty
  | 0, _ => none
  | n + 1, t => match P.underlying t with
    | some (.int k) => some (.int k)
    | some .bool => some .bool
    | some (.slice e) => match tyId P n e with
      | some a => some (.sl e a)
      | none => none
    | some (.struct fs) => structTy (fs.toList.map fun f => tyId P n f.type)
    | some (.map _ _) => some .mp
    | _ => none
def fldOf (P : Program) (t : TypeId) (fi : Nat) : Option (Nat × Nat) := match P.underlying t with
  | some (.struct fs) => match fs[fi]? with
    | some f => some (f.offset, szOf P f.type)
    | none => none
  | _ => none
def aggOf (P : Program) (t : TypeId) : Option Bool := match P.underlying t with
  | some (.struct _) => some true
  | some (.array _ _) => none
  | some _ => some false
  | none => none
def isAggT (P : Program) (t : TypeId) : Bool := decide (aggOf P t = some true)
def elemOf (P : Program) (t : TypeId) : Option TypeId := match P.underlying t with
  | some (.slice e) => some e
  | _ => none
def bytesOf (P : Program) (e : TypeId) : Nat := match P.info? e with | some i => i.bytes | none => 0

/-! ### Cells of values -/
def cellsOf (rg : Rg) (n : Nat) : List Bool → Ty → List SC
  | p, .int _ => [.v (.r ⟨n, p⟩)]
  | p, .bool => [.v (.r ⟨n, p⟩)]
  | _, .unit => []
  | p, .pr a b => cellsOf rg n (p ++ [false]) a ++ cellsOf rg n (p ++ [true]) b
  | p, .sl _ _ => [.s rg (.r ⟨n, p⟩)]
  | _, .mp => [.gone]
/-- Of an element of an owned list whose elements hold slices of their own. -/
def cellsOfN (r : Nat) (i : At) (n : Nat) : Nat → List Bool → Ty → List SC
  | _, p, .int _ => [.v (.r ⟨n, p⟩)]
  | _, p, .bool => [.v (.r ⟨n, p⟩)]
  | _, _, .unit => []
  | k, p, .pr a b => cellsOfN r i n k (p ++ [false]) a ++ cellsOfN r i n (k + a.n) (p ++ [true]) b
  | k, p, .sl _ _ => [.hn r i k (.r ⟨n, p⟩)]
  | _, _, .mp => [.gone]
def zeroCells : Ty → List SC
  | .int k => [.v (.int k 0)]
  | .bool => [.v (.bool false)]
  | .unit => []
  | .pr a b => zeroCells a ++ zeroCells b
  | .sl _ _ => [.nil]
  | .mp => [.gone]

/-! ### Striking handles -/
mutual
/-- The contents of root r have turned (all: its header too). -/
def SC.kill (all : Bool) (r : Nat) : SC → SC
  | .s (some r') x => bif Nat.beq r' r then .gone else .s (some r') x
  | .h r' => bif all && Nat.beq r' r then .gone else .h r'
  | .hn r' i k x => bif Nat.beq r' r then .gone else .hn r' i k x
  | .hs r' lo hi x => bif Nat.beq r' r then .gone else .hs r' lo hi x
  | .rp rg cells => bif (match rg with | some r' => Nat.beq r' r | none => false) then .gone else .rp rg (killL all r cells)
  | .fn f caps => .fn f (killL all r caps)
  | c => c
def killL (all : Bool) (r : Nat) : List SC → List SC
  | [] => []
  | c :: cs => c.kill all r :: killL all r cs
end
def SV.kill (all : Bool) (r : Nat) : SV → SV
  | .c x => .c (x.kill all r)
  | .agg xs => .agg (killL all r xs)
  | .ad r' e i k => bif all && Nat.beq r' r then .junk else .ad r' e i k
  | .ra rg cells => bif (match rg with | some r' => Nat.beq r' r | none => false) then .junk else .ra rg (killL all r cells)
  | .tup rs => .tup (rs.map fun x => (x.1, killL all r x.2))
  | .und => .und
  | .junk => .junk
def RK.kill (all : Bool) (r : Nat) : RK → RK
  | .box e cells => .box e (killL all r cells)
  | .list e a val nl (some (some r')) => bif Nat.beq r' r then .dead else .list e a val nl (some (some r'))
  | k => k
def St.kill (st : St) (all : Bool) (r : Nat) : St := { st with slots := st.slots.map (SV.kill all r), roots := st.roots.map (RK.kill all r) }
def St.setR (st : St) (r : Nat) (k : RK) : St := { st with roots := st.roots.set r k }
def St.put (st : St) (d : Nat) (v : SV) : St := { st with slots := st.slots.set d v }
def St.rk (st : St) (r : Nat) : RK := st.roots.getD r .dead
def St.slot (st : St) (s : Nat) : SV := st.slots.getD s .junk
def St.push (st : St) (k : RK) : St := { st with roots := st.roots ++ [k] }
def St.nr (st : St) : Nat := st.roots.length

/-! ### Atoms within the environment -/
def oLt (n : Nat) : Option At → Bool
  | some x => x.lt n
  | none => true
mutual
def SC.wf (n : Nat) : SC → Bool
  | .v x => x.lt n
  | .s _ x => x.lt n
  | .hn _ i _ x => i.lt n && x.lt n
  | .hs _ lo _ x => oLt n lo && x.lt n
  | .rp _ cells => wfL n cells
  | .fn _ caps => wfL n caps
  | _ => true
def wfL (n : Nat) : List SC → Bool
  | [] => true
  | c :: cs => c.wf n && wfL n cs
end
def SV.wf (n : Nat) : SV → Bool
  | .c x => x.wf n
  | .agg xs => wfL n xs
  | .ad _ _ i _ => i.lt n
  | .ra _ cells => wfL n cells
  | .tup rs => rs.all fun x => wfL n x.2
  | _ => true
def RK.wf (n : Nat) : RK → Bool
  | .box _ cells => wfL n cells
  | .list _ _ v _ _ => v.lt n
  | .listH _ _ v _ i _ => v.lt n && i.lt n
  | .mp v => v.lt n
  | .dead => true
def St.wf (st : St) : Bool := st.slots.all (SV.wf st.ts.length) && st.roots.all (RK.wf st.ts.length)

/-! ### Roots spoken of -/
mutual
def SC.okR (ph pr : Nat → Bool) : SC → Bool
  | .s (some r) _ => pr r
  | .h r => ph r
  | .hn r _ _ _ => ph r && pr r
  | .hs r _ _ _ => ph r && pr r
  | .rp rg cells => (match rg with | some r => pr r | none => true) && okL ph pr cells
  | .fn _ caps => okL ph pr caps
  | _ => true
def okL (ph pr : Nat → Bool) : List SC → Bool
  | [] => true
  | c :: cs => c.okR ph pr && okL ph pr cs
end
def SV.okR (ph pr : Nat → Bool) : SV → Bool
  | .c x => x.okR ph pr
  | .agg xs => okL ph pr xs
  | .ad r _ _ _ => ph r
  | .ra rg cells => (match rg with | some r => pr r | none => true) && okL ph pr cells
  | .tup rs => rs.all fun x => okL ph pr x.2
  | _ => true
def RK.okR (ph pr : Nat → Bool) : RK → Bool
  | .box _ cells => okL ph pr cells
  | .list _ _ _ _ (some (some r)) => pr r
  | _ => true
def St.okR (st : St) (ph pr : Nat → Bool) : Bool := st.slots.all (SV.okR ph pr) && st.roots.all (RK.okR ph pr)
/-- No root is spoken of that is not there. -/
def St.rok (st : St) : Bool := st.okR (fun r => Nat.blt r st.nr) (fun r => Nat.blt r st.nr) && st.fix.all fun r => Nat.blt r st.nr

def constV : Value → M SV
  | .int k z => .ok (.c (.v (.int k z)))
  | .bool b => .ok (.c (.v (.bool b)))
  | .slice none 0 0 => .ok (.c .nil)
  | .pointer none => .ok (.c .gone)
  | .nilFunc => .ok (.c .gone)
  | .map none => .ok (.c .gone)
  | _ => .error "const"
def St.val (st : St) : Operand → M SV
  | .tmp t => .ok (st.slot t)
  | .const v => constV v
  | .func f => .ok (.c (.fn f []))
  | .global _ => .error "global"
def St.ty (st : St) (x : At) : M Ty := match x.ty st.ts with | some t => .ok t | none => .error "type of an atom"
def St.atom (st : St) (o : Operand) : M At := do match ← st.val o with | .c (.v x) => .ok x | v => .error "atom"
def St.intOf (st : St) (o : Operand) : M (IntKind × At) := do
  let x ← st.atom o
  match ← st.ty x with
  | .int k => .ok (k, x)
  | _ => .error "an integer expected"
def St.boolOf (st : St) (o : Operand) : M At := do
  let x ← st.atom o
  match ← st.ty x with
  | .bool => .ok x
  | _ => .error "a bool expected"
/-- A slice's value, where it is only looked at. -/
def St.listVal (st : St) : SC → M At
  | .s _ x => .ok x
  | .hn _ _ _ x => .ok x
  | .hs _ _ _ x => .ok x
  | .h r => match st.rk r with
    | .list e a val _ _ => if val.ty st.ts = some (.sl e a) then .ok val else .error "a lists type"
    | _ => .error "a list expected"
  | _ => .error "a slice expected"
/-- A cell's value, of type t, where it is handed over for reading. -/
def St.cellVal (st : St) (t : Ty) (c : SC) : M At := do
  match c with
  | .v x => if (← st.ty x) = t then .ok x else .error "cell type"
  | .nil => match t with
    | .sl _ _ => .ok (.nil t)
    | _ => .error "cell nil"
  | c =>
    let x ← st.listVal c
    if (← st.ty x) = t then .ok x else .error "cell list type"
def Ty.leaves : Ty → List Ty
  | .unit => []
  | .pr a b => a.leaves ++ b.leaves
  | t => [t]
def St.cellVals (st : St) : List Ty → List SC → M (List At)
  | [], [] => .ok []
  | t :: ts, c :: cs => do .ok ((← st.cellVal t c) :: (← st.cellVals ts cs))
  | _, _ => .error "cells number"
/-- One cell's worth, for sure. -/
def St.solid (st : St) : SC → Bool
  | .v x => match x.ty st.ts with
    | some (.int _) => true
    | some .bool => true
    | _ => false
  | .h r => match st.rk r with
    | .dead => false
    | _ => true
  | .gone => false
  | _ => true
def svCells : SV → M (List SC)
  | .c x => .ok [x]
  | .agg xs => .ok xs
  | _ => .error "a value expected"
def St.cells (st : St) (v : SV) : M (List SC) := do
  let cs ← svCells v
  if cs.all st.solid then .ok cs else .error "no solid value"
/-- The next environment place. -/
def St.nx (st : St) : Nat := st.ts.length
def St.bind (st : St) (t : Ty) : St := { st with ts := st.ts ++ [t] }
def St.ref (st : St) : At := .r ⟨st.ts.length, []⟩

def splice {α : Type} (c : List α) (k : Nat) (xs : List α) : List α := c.take k ++ xs ++ c.drop (k + xs.length)

/-! ### Contracts' shapes -/
inductive Par where
  | val (agg : Bool) (t : Ty)
  | ptr (t : Ty)
  | own (agg : Bool) (t : Ty) (io : Bool)
  | iob (e : TypeId) (t : Ty)
  | fn (f : FuncId) (caps : List Ty)
  deriving Repr, Inhabited, DecidableEq
inductive Res where
  | val (agg : Bool) (t : Ty) (nl : Bool)
  | ptr (e : TypeId) (t : Ty)
  deriving Repr, Inhabited, DecidableEq
structure Sig where
  key : Nat
  f : FuncId
  ps : List Par
  rs : List Res
  deriving Repr, Inhabited
def prod : List Ty → Ty
  | [] => .unit
  | [t] => t
  | t :: ts => .pr t (prod ts)
def Par.ty : Par → Ty
  | .val _ t | .ptr t | .iob _ t | .own _ t _ => t
  | .fn _ ts => prod ts
def Res.ty : Res → Ty
  | .val _ t _ | .ptr _ t => t
def Ty.isSl : Ty → Bool
  | .sl _ _ => true
  | _ => false
def Ty.scalar : Ty → Bool
  | .int _ => true
  | .bool => true
  | _ => false
def Ty.sls (t : Ty) : Nat := (t.leaves.filter Ty.isSl).length
def Par.io : Par → List Ty
  | .own _ t true => t.leaves.filter Ty.isSl
  | _ => []
/-- Lists whose elements hold lists of flat elements at most. -/
def Ty.flat2 : Ty → Bool
  | .int _ => true
  | .bool => true
  | .unit => true
  | .pr a b => a.flat2 && b.flat2
  | .sl _ a => a.flat1
  | .mp => false
/-- How many roots a parameter brings. -/
def Par.nroots : Par → Nat
  | .own _ t _ => t.sls
  | _ => 0
/-- .. and which of them come back. -/
def Par.flags : Par → List Bool
  | .own _ t io => List.replicate t.sls io
  | _ => []
def Sig.p (s : Sig) : Ty := prod (s.ps.map Par.ty)
def Sig.r (s : Sig) : Ty := prod (s.rs.map Res.ty ++ s.ps.flatMap Par.io)
def Sig.m (s : Sig) : Nat := s.rs.length + (s.ps.flatMap Par.io).length
def Sig.flags (s : Sig) : List Bool := s.ps.flatMap Par.flags
def Par.fits : Par → M SV → Bool
  | .fn f ts, .ok (.c (.fn g caps)) => decide (f = g) && decide (ts.length = caps.length)
  | .fn _ _, _ => false
  | _, _ => true
def findS (st : St) (ss : List Sig) (f : FuncId) (os : List Operand) : Option Sig := match ss with
  | [] => none
  | s :: ss => if s.f = f ∧ (s.ps.zip os).all (fun p => p.1.fits (st.val p.2)) then some s else findS st ss f os
/-- The path of the i-th part of a product of n parts. -/
def partPath : Nat → Nat → List Bool
  | 0, _ => []
  | 1, _ => []
  | _ + 2, 0 => [false]
  | n + 2, i + 1 => true :: partPath (n + 1) i
def pathsOf : List Bool → Ty → List (List Bool)
  | _, .unit => []
  | p, .pr a b => pathsOf (p ++ [false]) a ++ pathsOf (p ++ [true]) b
  | p, _ => [p]
/-- The leaves of a type with their paths. -/
def Ty.lp (p : List Bool) (t : Ty) : List (Ty × List Bool) := t.leaves.zip (pathsOf p t)

/-- What comes of an operation: the expressions bound, in order (each with its type), and the state behind. -/
structure Step where
  es : List (Ex × Ty)
  st : St
  deriving Repr, Inhabited

/-- The cells of an own value (place n): each slice a root, from root r on. -/
def ownCs (n : Nat) : List (Ty × List Bool) → Nat → List SC
  | [], _ => []
  | (.sl _ _, _) :: ls, r => .h r :: ownCs n ls (r + 1)
  | (.mp, _) :: ls, r => .gone :: ownCs n ls r
  | (_, p) :: ls, r => .v (.r ⟨n, p⟩) :: ownCs n ls r
def ownRs (nl : Bool) (n : Nat) : List (Ty × List Bool) → List RK
  | [] => []
  | (.sl e a, p) :: ls => .list e a (.r ⟨n, p⟩) nl none :: ownRs nl n ls
  | _ :: ls => ownRs nl n ls
def slotOf (agg : Bool) (cs : List SC) : SV := if agg then .agg cs else match cs with | c :: _ => .c c | [] => .junk
/-- The callee's parameters. -/
def parSlot (m i r : Nat) : Par → SV
  | .val agg t => slotOf agg (cellsOf none 0 (partPath m i) t)
  | .ptr t => .c (.rp none (cellsOf none 0 (partPath m i) t))
  | .own agg t _ => slotOf agg (ownCs 0 (t.lp (partPath m i)) r)
  | .iob _ _ => .junk
  | .fn f ts => .c (.fn f (ts.zipIdx.map fun x => .rp none (cellsOf none 0 (partPath m i ++ partPath ts.length x.2) x.1)))
def parRoots (m i : Nat) : Par → List RK
  | .own _ t _ => ownRs false 0 (t.lp (partPath m i))
  | _ => []
def initSlots (m : Nat) : Nat → Nat → List Par → List SV
  | _, _, [] => []
  | i, r, p :: ps => parSlot m i r p :: initSlots m (i + 1) (r + p.nroots) ps
def initRoots (m : Nat) : Nat → List Par → List RK
  | _, [] => []
  | i, p :: ps => parRoots m i p ++ initRoots m (i + 1) ps
def preSt (s : Sig) : St := { ts := [s.p], slots := initSlots s.ps.length 0 0 s.ps, roots := initRoots s.ps.length 0 s.ps }
/-- The results. -/
def resCs (n m : Nat) : Nat → Nat → List Res → List (Bool × List SC)
  | _, _, [] => []
  | i, r, .val agg t _ :: rs => (agg, ownCs n (t.lp (partPath m i)) r) :: resCs n m (i + 1) (r + t.sls) rs
  | i, r, .ptr _ t :: rs => (false, [.h (r + t.sls)]) :: resCs n m (i + 1) (r + t.sls + 1) rs
def resRs (n m : Nat) : Nat → Nat → List Res → List RK
  | _, _, [] => []
  | i, r, .val _ t nl :: rs => ownRs nl n (t.lp (partPath m i)) ++ resRs n m (i + 1) (r + t.sls) rs
  | i, r, .ptr e t :: rs => ownRs false n (t.lp (partPath m i)) ++ (.box e (ownCs n (t.lp (partPath m i)) r) :: resRs n m (i + 1) (r + t.sls + 1) rs)
def resSV : List (Bool × List SC) → SV
  | [(false, [c])] => .c c
  | [(true, cs)] => .agg cs
  | cs => .tup cs
/-- The parameters' roots, behind the call. -/
def postRs (n m : Nat) : Nat → List Par → List RK
  | _, [] => []
  | i, .own _ t true :: ps => ownRs false n ((t.leaves.filter Ty.isSl).zipIdx.map fun x => (x.1, partPath m (i + x.2))) ++ postRs n m (i + t.sls) ps
  | i, .own _ t false :: ps => List.replicate t.sls .dead ++ postRs n m i ps
  | i, _ :: ps => postRs n m i ps
def Sig.k0 (s : Sig) : Nat := s.flags.length
def postSt (s : Sig) : St := { ts := [s.r], slots := [resSV (resCs 0 s.m 0 s.k0 s.rs)], roots := postRs 0 s.m s.rs.length s.ps ++ resRs 0 s.m 0 s.k0 s.rs }

/-! ### The caller's side -/
def rgOut (R : List Nat) : Rg → Bool
  | some r => !R.contains r
  | none => true
/-- A cell's value, lent; it must not speak of the roots R. -/
def St.argVal (st : St) (R : List Nat) (t : Ty) : SC → M At
  | .v x => if t.scalar ∧ x.ty st.ts = some t then .ok x else .error "argument atom"
  | .nil => if t.isSl then .ok (.nil t) else .error "argument nil"
  | .s rg x => if t.isSl ∧ x.ty st.ts = some t ∧ rgOut R rg then .ok x else .error "argument slice"
  | .h r => match st.rk r with
    | .list e a val _ none => if t = .sl e a ∧ a.flat1 ∧ val.ty st.ts = some t ∧ !R.contains r then .ok val else .error "argument list"
    | _ => .error "argument root"
  | .hn r _ _ x => if t.isSl ∧ x.ty st.ts = some t ∧ !R.contains r then .ok x else .error "argument slice"
  | .hs r _ _ x => if t.isSl ∧ x.ty st.ts = some t ∧ !R.contains r then .ok x else .error "argument slice"
  | _ => .error "argument cell"
def St.argVals (st : St) (R : List Nat) : List Ty → List SC → M (List At)
  | [], [] => .ok []
  | t :: ts, c :: cs => do
    let x ← st.argVal R t c
    let xs ← st.argVals R ts cs
    .ok (x :: xs)
  | _, _ => .error "cells number"
def svAgg (agg : Bool) : SV → M (List SC)
  | .c x => if agg then .error "argument no struct" else .ok [x]
  | .agg xs => if agg then .ok xs else .error "argument a struct"
  | _ => .error "argument value"
/-- What the callee owns for the call: values and roots. -/
def St.ownVals (st : St) : List Ty → List SC → M (List At × List Nat)
  | [], [] => .ok ([], [])
  | .sl e a :: ts, c :: cs => match c with
    | .h r => match st.rk r with
      | .list e' a' val _ none => do
        let (xs, rs) ← st.ownVals ts cs
        if e = e' ∧ a = a' ∧ a.flat1 ∧ val.ty st.ts = some (.sl e a) then .ok (val :: xs, r :: rs) else .error "own argument type"
      | _ => .error "own argument root"
    | _ => .error "own argument no list"
  | t :: ts, c :: cs => match c with
    | .v x => do
      let (xs, rs) ← st.ownVals ts cs
      if t.scalar ∧ x.ty st.ts = some t then .ok (x :: xs, rs) else .error "own argument atom"
    | _ => .error "own argument cell"
  | _, _ => .error "cells number"
def St.ptrCells (st : St) (R : List Nat) : SC → M (List SC)
  | .h r => match st.rk r with
    | .box _ cells => if !R.contains r then .ok cells else .error "argument an own box"
    | _ => .error "argument no box"
  | .rp rg cells => if rgOut R rg then .ok cells else .error "argument pointer"
  | _ => .error "argument no pointer"
def capVals (st : St) (R : List Nat) : List Ty → List SC → M (List At)
  | [], [] => .ok []
  | t :: ts, c :: cs => do
    let ds ← st.ptrCells R c
    let xs ← st.argVals R t.leaves ds
    let ys ← capVals st R ts cs
    .ok (xs ++ ys)
  | _, _ => .error "captures"
def callRoots (st : St) : List Par → List SV → M (List Nat)
  | [], [] => .ok []
  | .own agg t _ :: ps, v :: vs => do
    let cs ← svAgg agg v
    let x ← st.ownVals t.leaves cs
    let rs ← callRoots st ps vs
    .ok (x.2 ++ rs)
  | _ :: ps, _ :: vs => callRoots st ps vs
  | _, _ => .error "arguments number"
def callArg (st : St) (R : List Nat) (p : Par) (v : SV) : M (List At) := match p with
  | .val agg t => do
    let cs ← svAgg agg v
    st.argVals R t.leaves cs
  | .ptr t => match v with
    | .c c => do
      let cs ← st.ptrCells R c
      st.argVals R t.leaves cs
    | _ => .error "argument no pointer"
  | .own agg t _ => do
    let cs ← svAgg agg v
    let x ← st.ownVals t.leaves cs
    .ok x.1
  | .fn _ _ => .error "argument function"
  | .iob _ _ => .error "argument box"
def callArgs (st : St) (R : List Nat) : List Par → List SV → M (List At)
  | [], [] => .ok []
  | p :: ps, v :: vs => do
    let xs ← callArg st R p v
    let ys ← callArgs st R ps vs
    .ok (xs ++ ys)
  | _, _ => .error "arguments number"
def nodup : List Nat → Bool
  | [] => true
  | x :: xs => !xs.contains x && nodup xs
/-- The roots handed over are struck. -/
def killR : List (Nat × Bool) → St → St
  | [], st => st
  | (r, io) :: l, st => if st.rok && (io || !st.fix.contains r) then killR l ((st.kill (!io) r).setR r .dead) else killR l st
def setRs : List (Nat × RK) → St → St
  | [], st => st
  | (r, k) :: l, st => setRs l (st.setR r k)
/-- Roots that do not come back. -/
def goneR (l : List (Nat × Bool)) (r : Nat) : Bool := l.any fun x => Nat.beq x.1 r && !x.2
def callEnd (st st1 : St) (d : Nat) (s : Sig) (R : List Nat) : St :=
  let st2 := setRs (R.zip (postRs st.nx s.m s.rs.length s.ps)) (st1.bind s.r)
  { st2 with roots := st2.roots ++ resRs st.nx s.m 0 st.nr s.rs }.put d (resSV (resCs st.nx s.m 0 st.nr s.rs))
def stepCall (st : St) (ss : List Sig) (d : Nat) (f : FuncId) (os : List Operand) (caps : List SC) : M Step :=
  match findS st ss f os with
  | some s => do
    let us ← os.mapM st.val
    let vs := us ++ caps.map .c
    let R ← callRoots st s.ps vs
    let xs ← callArgs st R s.ps vs
    let fl := s.flags
    let st1 := killR (R.zip fl) st
    if ¬ (nodup R ∧ R.length = fl.length ∧ (postRs st.nx s.m s.rs.length s.ps).length = R.length ∧ R.all (fun r => Nat.blt r st.nr) ∧ s.rs.all (fun r => r.ty.flat2) ∧ (s.ps.flatMap Par.io).all Ty.flat2 ∧
      st1.okR (fun r => Nat.blt r st.nr && !goneR (R.zip fl) r) (fun r => Nat.blt r st.nr && !R.contains r) ∧ st.fix.all (fun r => Nat.blt r st.nr && !goneR (R.zip fl) r) ∧ st1.nr = st.nr ∧ st1.wf ∧ vs.length = s.ps.length ) then .error "call roots" else
    .ok ⟨[(.call s.key xs, s.r)], callEnd st st1 d s R⟩
  | none => .error "call no contract of"

def binA : BinOp → Option BinA
  | .add => some .add | .sub => some .sub | .mul => some .mul | .and => some .and | .or => some .or | .xor => some .xor | _ => none
def cmpA : BinOp → Option CmpA
  | .eql => some .eq | .neq => some .ne | .lss => some .lt | .leq => some .le | .gtr => some .gt | .geq => some .ge | _ => none
def step1 (st : St) (d : Nat) (e : Ex) (t : Ty) (mk : At → SV) : Step := ⟨[(e, t)], (st.bind t).put d (mk st.ref)⟩
/-- Cells as a type's value in an owned list: what each cell gives, and the roots that are taken in. -/
def St.takeCells (st : St) (inner : Option Rg) : List Ty → List SC → M (List At × List Nat)
  | [], [] => .ok ([], [])
  | .sl e a :: ts, c :: cs => do
    let (xs, rs) ← st.takeCells inner ts cs
    match inner, c with
    | none, .nil => .ok (.nil (.sl e a) :: xs, rs)
    | none, .h r => match st.rk r with
      | .list e' a' val _ none => if e = e' ∧ a = a' ∧ a.flat ∧ !rs.contains r ∧ !st.fix.contains r then .ok (val :: xs, r :: rs) else .error "taken cells type"
      | _ => .error "taken cells root"
    | some rg, .s rg' x => if rg = rg' ∧ x.ty st.ts = some (.sl e a) then .ok (x :: xs, rs) else .error "taken cells region"
    | _, _ => .error "taken cells slice"
  | t :: ts, c :: cs => do
    let (xs, rs) ← st.takeCells inner ts cs
    match c with
    | .v x => if x.ty st.ts = some t then .ok (x :: xs, rs) else .error "taken cells atom type"
    | _ => .error "taken cells atom"
  | _, _ => .error "taken cells number"
def killAll (all : Bool) : List Nat → St → St
  | [], st => st
  | r :: rs, st => killAll all rs ((st.kill all r).setR r .dead)
def Ty.cellTy (t : Ty) (k m : Nat) : List Ty := (t.leaves.drop k).take m
/-- The parts of a slice literal. -/
def parts (st : St) (a : Ty) : List Operand → M (List (List At))
  | [] => .ok []
  | o :: os => do
    let v ← st.val o
    let cs ← st.cells v
    let x ← st.takeCells none a.leaves cs
    let ys ← parts st a os
    .ok (x.1 :: ys)
def inOrder : Nat → List (Nat × Operand) → Bool
  | _, [] => true
  | k, (i, _) :: l => Nat.beq i k && inOrder (k + 1) l
def placesOf (P : Program) (t : TypeId) : Option (List (Nat × Nat)) := match P.underlying t with
  | some (.struct fields) => fields.toList.mapM (fun f => (P.info? f.type).map fun i => (f.offset, i.size))
  | _ => none
def buildParts (st : St) (places : List (Nat × Nat)) : List (Nat × Operand) → List SC → M (List SC)
  | [], cs => .ok cs
  | (i, o) :: ps, cs => do
    let v ← st.val o
    let xs ← st.cells v
    match places[i]? with
    | some (off, sz) => if xs.length = sz ∧ off + sz ≤ cs.length then buildParts st places ps (splice cs off xs) else .error "build size"
    | none => .error "build field"
/-- A nil slice in a slot or cell made an owned list. -/
def SV.isNil : SV → Bool
  | .c .nil => true
  | _ => false
def zeroC : Value → SC
  | .int k z => .v (.int k z)
  | .bool b => .v (.bool b)
  | .slice none 0 0 => .nil
  | _ => .gone
def zeroSC (P : Program) (e : TypeId) : Option (List SC) := match P.info? e with
  | some i => match i.zero with
    | some z => some (z.cells.toList.map zeroC)
    | none => none
  | none => none
def zeroN (P : Program) (e : TypeId) : Option Nat := match zeroSC P e with
  | some cs => some cs.length
  | none => none
def srcBad (r : Nat) : SC → Bool
  | .h r2 => Nat.beq r2 r
  | .s (some r2) _ => Nat.beq r2 r
  | .hn r2 _ _ _ => Nat.beq r2 r
  | .hs r2 _ _ _ => Nat.beq r2 r
  | _ => false
/-- Onto an owned list of flat elements: the elements are copied. -/
def appFlat (P : Program) (st : St) (d : Nat) (t : TypeId) (r : Nat) (y : SV) : M Step := match elemOf P t, st.rk r with
  | some e, .list e' a val nl none =>
    if ¬ (e = e' ∧ a.flat ∧ !st.fix.contains r ∧ st.dirty.isEmpty ∧ val.ty st.ts = some (.sl e a) ∧ a.n = szOf P e ∧ 0 < a.n ∧ 0 < bytesOf P e ∧ zeroN P e = some a.n) then .error "append destination type" else
    match y with
    | .c .nil => .ok ⟨[], st.put d (.c (.h r))⟩
    | .c src => do
      let v ← st.listVal src
      let tv ← st.ty v
      if ¬ (tv = .sl e a ∧ !srcBad r src) then .error "append source type" else
      .ok ⟨[(.app (bytesOf P e) val v, .sl e a)], ((((st.bind (.sl e a)).kill true r).setR r (.list e a (.r ⟨st.nx, []⟩) nl none)).put d (.c (.h r)))⟩
    | _ => .error "append source"
  | _, _ => .error "append no list"
/-- A nil slice taken for an owned list. -/
def adoptNew (st : St) (e : TypeId) (a : Ty) : St := st.push (.list e a (.nil (.sl e a)) true none)
def stepAppend (P : Program) (st : St) (d : Nat) (t : TypeId) (x y : SV) : M Step := match x with
  | .c .nil => match elemOf P t with
    | some e => match tyId P 8 e with
      | some a => if !((adoptNew st e a).wf && (adoptNew st e a).rok) then .error "append roots" else appFlat P (adoptNew st e a) d t st.nr y
      | none => .error "append element type"
    | none => .error "append type"
  | .c (.h r) => appFlat P st d t r y
  | _ => .error "append destination"

def optAtom (st : St) : Option Operand → M (Option At)
  | none => .ok none
  | some o => do let (_, x) ← st.intOf o; .ok (some x)
def St.clean (st : St) : SV → Bool
  | .c (.h r) => !st.dirty.contains (r, false)
  | .ad r _ _ _ => !st.dirty.contains (r, false)
  | .c (.rp (some r) _) | .ra (some r) _ => !st.dirty.contains (r, false) && !st.dirty.contains (r, true)
  | _ => true
def loadCells' (P : Program) (t : TypeId) (cells : List SC) : M SV :=
  match aggOf P t with
  | some true => if (cells.take (szOf P t)).length = szOf P t ∧ 0 < szOf P t then .ok (.agg (cells.take (szOf P t))) else .error "load size"
  | some false => match cells with
    | c :: _ => .ok (.c c)
    | [] => .error "load no cell"
  | none => .error "load type"
mutual
def SC.beq : SC → SC → Bool
  | .v x, .v y => decide (x = y)
  | .s rg x, .s rg' y => decide (rg = rg' ∧ x = y)
  | .nil, .nil => true
  | .h r, .h r' => Nat.beq r r'
  | .hn r i k x, .hn r' i' k' x' => decide (r = r' ∧ i = i' ∧ k = k' ∧ x = x')
  | .hs r lo hi x, .hs r' lo' hi' x' => decide (r = r' ∧ lo = lo' ∧ hi = hi' ∧ x = x')
  | .rp rg cs, .rp rg' cs' => decide (rg = rg') && beqL cs cs'
  | .fn f cs, .fn f' cs' => decide (f = f') && beqL cs cs'
  | _, _ => false
def beqL : List SC → List SC → Bool
  | [], [] => true
  | c :: cs, d :: ds => c.beq d && beqL cs ds
  | _, _ => false
end

/-! ### The operations, one by one -/
def stepMove (st : St) (d : Nat) (x : Operand) : M Step := do
  let v ← st.val x
  .ok ⟨[], st.put d v⟩
def stepAssign (st : St) (d : Nat) (x : Operand) : M Step := do
  let v ← st.val x
  match v with
  | .c (.hs _ _ _ _) => .error "assign slice"
  | v => .ok ⟨[], st.put d v⟩
def stepPick (st : St) (d : Nat) (c x y : Operand) : M Step := do
  let v ← st.val c
  match v with
  | .c (.v (.bool b)) => do
    let u ← st.val (if b then x else y)
    .ok ⟨[], st.put d u⟩
  | _ => .error "pick unknown"
def stepBinInt (st : St) (d : Nat) (op : BinOp) (k k' : IntKind) (x y : At) : M Step := match op with
  | .shl => .ok (step1 st d (.shift true k x y) (.int k) (.c ∘ .v))
  | .shr => .ok (step1 st d (.shift false k x y) (.int k) (.c ∘ .v))
  | _ =>
    if k ≠ k' then .error "binOp kinds" else
    match binA op with
    | some b => .ok (step1 st d (.bin b k x y) (.int k) (.c ∘ .v))
    | none => match cmpA op with
      | some c => .ok (step1 st d (.cmp c k x y) .bool (.c ∘ .v))
      | none => match op with
        | .quo => .ok (step1 st d (.div k x y) (.int k) (.c ∘ .v))
        | .rem => .ok (step1 st d (.rem k x y) (.int k) (.c ∘ .v))
        | _ => .error "binOp"
def stepBinBool (st : St) (d : Nat) (op : BinOp) (x y : At) : M Step := match op with
  | .eql => .ok (step1 st d (.beq false x y) .bool (.c ∘ .v))
  | .neq => .ok (step1 st d (.beq true x y) .bool (.c ∘ .v))
  | _ => .error "binOp bools"
def stepBinNil (st : St) (d : Nat) (op : BinOp) (x : SC) : M Step := match x with
  | .nil => match op with
    | .eql => .ok ⟨[], st.put d (.c (.v (.bool true)))⟩
    | .neq => .ok ⟨[], st.put d (.c (.v (.bool false)))⟩
    | _ => .error "binOp nil"
  | .h r => match op, st.rk r with
    | .eql, .list e a v nl _ => if v.ty st.ts = some (.sl e a) then .ok (step1 st d (.isnil nl v) .bool (.c ∘ .v)) else .error "binOp nil type"
    | _, _ => .error "binOp nil"
  | _ => .error "binOp nil"
def stepBin (P : Program) (st : St) (d : Nat) (op : BinOp) (t : TypeId) (x y : Operand) : M Step := do
  let vx ← st.val x
  let vy ← st.val y
  match vx, vy with
  | .c (.v x), .c (.v y) => do
    let tx ← st.ty x
    let ty ← st.ty y
    match tx, ty with
    | .int k, .int k' => stepBinInt st d op k k' x y
    | .bool, .bool => match P.underlying t with
      | some .bool => stepBinBool st d op x y
      | _ => .error "binOp no bool"
    | _, _ => .error "binOp types"
  | .c c, .c .nil => match elemOf P t with
    | some _ => stepBinNil st d op c
    | none => .error "binOp no slice"
  | a, b => .error "binOp operands"
def stepNot (st : St) (d : Nat) (x : Operand) : M Step := do
  let x ← st.boolOf x
  match x with
  | .bool b => .ok ⟨[], st.put d (.c (.v (.bool (!b))))⟩
  | x => .ok (step1 st d (.not x) .bool (.c ∘ .v))
def stepNeg (st : St) (d : Nat) (x : Operand) : M Step := do
  let (k, x) ← st.intOf x
  .ok (step1 st d (.neg k x) (.int k) (.c ∘ .v))
def stepConv (P : Program) (st : St) (d : Nat) (s t : TypeId) (x : Operand) : M Step := do
  let (k, x) ← st.intOf x
  match P.underlying s, P.underlying t with
  | some (.int k1), some (.int k2) => if k = k1 then .ok (step1 st d (.conv k k2 x) (.int k2) (.c ∘ .v)) else .error "convert kind"
  | _, _ => .error "convert"
def stepNilCheck (st : St) (d : Nat) (x : Operand) : M Step := do
  let v ← st.val x
  match v with
  | .c (.h r) => match st.rk r with
    | .box _ _ => .ok ⟨[], st.put d (.c (.h r))⟩
    | _ => .error "nilCheck"
  | .c (.rp rg cells) => .ok ⟨[], st.put d (.c (.rp rg cells))⟩
  | v => .error "nilCheck"
def stepExtract (st : St) (d : Nat) (x : Operand) (i : Nat) : M Step := do
  let v ← st.val x
  match v with
  | .tup rs => match rs[i]? with
    | some (false, [c]) => .ok ⟨[], st.put d (.c c)⟩
    | some (true, cs) => .ok ⟨[], st.put d (.agg cs)⟩
    | _ => .error "extract"
  | _ => .error "extract no tuple"
def zeroIs (P : Program) (e : TypeId) (a : Ty) : Bool := match zeroSC P e with
  | some cs => beqL cs (zeroCells a)
  | none => false
def stepAlloc (P : Program) (st : St) (d : Nat) (e : TypeId) : M Step := match zeroSC P e with
  | some cs => if cs.length = szOf P e ∧ 0 < szOf P e then .ok ⟨[], (st.push (.box e cs)).put d (.c (.h st.nr))⟩ else .error "alloc size"
  | none => .error "alloc type"
def stepBox (P : Program) (st : St) (d : Nat) (e : TypeId) (x : Operand) : M Step := do
  let v ← st.val x
  let cs ← st.cells v
  if ¬ (cs.length = szOf P e ∧ 0 < szOf P e) then .error "box size" else
  .ok ⟨[], (st.push (.box e cs)).put d (.c (.h st.nr))⟩
def stepBuild (P : Program) (st : St) (d : Nat) (t : TypeId) (ps : List (Nat × Operand)) : M Step := match zeroSC P t, placesOf P t with
  | some zs, some places => do
    let cs ← buildParts st places ps zs
    .ok ⟨[], st.put d (.agg cs)⟩
  | _, _ => .error "build type"
def stepBuildSlice (P : Program) (st : St) (d : Nat) (t : TypeId) (n : Nat) (ps : List (Nat × Operand)) : M Step := match elemOf P t with
  | none => .error "buildSlice type"
  | some e => match tyId P 8 e with
    | none => .error "buildSlice element"
    | some a =>
      if n = 0 then (if a.flat1 ∧ ps.length = 0 ∧ 0 < szOf P e then .ok ⟨[], (st.push (.list e a (.nil (.sl e a)) false none)).put d (.c (.h st.nr))⟩ else .error "buildSlice empty") else
      if ¬ (a.flat ∧ inOrder 0 ps ∧ ps.length = n ∧ a.n = szOf P e ∧ 0 < a.n ∧ n * a.n ≤ 16777216 ∧ 0 < n ∧ (zeroN P e).isSome) then .error "buildSlice form" else do
      let ys ← parts st a (ps.map (·.2))
      .ok ⟨[(.lst e a ys, .sl e a)], ((st.bind (.sl e a)).push (.list e a st.ref true none)).put d (.c (.h st.nr))⟩
def stepMake (P : Program) (st : St) (d : Nat) (t : TypeId) (x y : Operand) : M Step := do
  let (k, x) ← st.intOf x
  let (k', y) ← st.intOf y
  match elemOf P t with
  | none => .error "make type"
  | some e => match tyId P 8 e with
    | none => .error "make element"
    | some a =>
      if ¬ (k = .i64 ∧ k' = .i64 ∧ x = y ∧ a.flat1 ∧ a.n = szOf P e ∧ 0 < a.n ∧ zeroIs P e a) then .error "make form" else
      .ok ⟨[(.make (bytesOf P e) e a x, .sl e a)], ((st.bind (.sl e a)).push (.list e a st.ref false none)).put d (.c (.h st.nr))⟩
def svC : SV → M SC
  | .c x => .ok x
  | _ => .error "makeFunc capture"
def stepMakeFunc (st : St) (d : Nat) (f : FuncId) (first caps : Array Operand) : M Step := do
  if first.size ≠ 0 then .error "makeFunc" else
  let vs ← caps.toList.mapM st.val
  let cs ← vs.mapM svC
  .ok ⟨[], st.put d (.c (.fn f cs))⟩
def stepLookup (st : St) (d : Nat) (x i : Operand) : M Step := do
  let (_, i) ← st.intOf i
  let vx ← st.val x
  if !st.clean vx then .error "lookup dirty" else
  match vx with
  | .c (.h r) => match st.rk r with
    | .mp v => .ok (step1 st d (.mget v i) .bool (.c ∘ .v))
    | _ => .error "lookup"
  | _ => .error "lookup"
def stepMapUpdate (st : St) (m k x : Operand) : M Step := do
  let (_, k) ← st.intOf k
  let x ← st.boolOf x
  let vm ← st.val m
  match vm with
  | .c (.h r) => match st.rk r with
    | .mp v => .ok ⟨[(.mset v k x, .mp)], (st.bind .mp).setR r (.mp st.ref)⟩
    | _ => .error "mapUpdate"
  | _ => .error "mapUpdate"
def elemCells (inner : Option Rg) (r : Nat) (i : At) (n : Nat) (a : Ty) : List SC := match inner with
  | some rg => cellsOf rg n [] a
  | none => cellsOfN r i n 0 [] a
def stepLoad (P : Program) (st : St) (d : Nat) (t : TypeId) (x : Operand) : M Step := do
  let vx ← st.val x
  if !st.clean vx then .error "load dirty" else
  match vx with
  | .c (.h r) => match st.rk r with
    | .box _ cells => do
      let v ← loadCells' P t cells
      .ok ⟨[], st.put d v⟩
    | _ => .error "load root"
  | .c (.rp _ cells) => do
    let v ← loadCells' P t cells
    .ok ⟨[], st.put d v⟩
  | .ra _ cells => do
    let v ← loadCells' P t cells
    .ok ⟨[], st.put d v⟩
  | .ad r e i k => match st.rk r with
    | .box e' cells => if e ≠ e' ∨ i ≠ .int .i64 0 then .error "load box" else do
      let v ← loadCells' P t (cells.drop k)
      .ok ⟨[], st.put d v⟩
    | .list e' a v _ inner => if e ≠ e' ∨ v.ty st.ts ≠ some (.sl e' a) ∨ a.n ≠ szOf P e' ∨ (inner = none ∧ a.flat1 = false) ∨ !i.lt st.ts.length then .error "load type" else do
      let u ← loadCells' P t ((elemCells inner r i st.nx a).drop k)
      .ok ⟨[(.get v i, a)], (st.bind a).put d u⟩
    | _ => .error "load root"
  | v => .error "load address"
def oldAtoms (n : Nat) (a : Ty) : List At := (pathsOf [] a).map fun p => .r ⟨n, p⟩
def stepStore (P : Program) (st : St) (t : TypeId) (x y : Operand) : M Step := do
  let vy ← st.val y
  let cs ← st.cells vy
  if ¬ (cs.length = szOf P t ∧ 0 < szOf P t ∧ st.dirty.isEmpty) then .error "store size" else
  let vx ← st.val x
  match vx with
  | .c (.h r) => match st.rk r with
    | .box e cells => if cells.length = cs.length then .ok ⟨[], (st.kill false r).setR r (.box e (splice (killL false r cells) 0 (killL false r cs)))⟩ else .error "store box"
    | _ => .error "store root"
  | .ad r ex i k => match st.rk r with
    | .box e cells => if k + cs.length ≤ cells.length ∧ ex = e ∧ i = .int .i64 0 then .ok ⟨[], (st.kill false r).setR r (.box e (splice (killL false r cells) k (killL false r cs)))⟩ else .error "store box"
    | .list e a v nl none =>
      if ¬ (ex = e ∧ a.flat ∧ v.ty st.ts = some (.sl e a) ∧ i.lt st.ts.length ∧ k + cs.length ≤ a.n ∧ a.n = szOf P e) then .error "store type" else do
      let (xs, rs) ← st.takeCells none (a.cellTy k cs.length) cs
      .ok ⟨[(.get v i, a), (.mk a (splice (oldAtoms st.nx a) k xs), a), (.set v i (.r ⟨st.nx + 1, []⟩), .sl e a)], (((((st.bind a).bind a).bind (.sl e a)).kill false r).setR r (.list e a (.r ⟨st.nx + 2, []⟩) nl none))⟩
    | _ => .error "store root"
  | v => .error "store address"
def stepFieldAddr (P : Program) (st : St) (d : Nat) (t : TypeId) (x : Operand) (fi : Nat) : M Step := match fldOf P t fi with
  | none => .error "fieldAddr"
  | some (off, sz) =>
    if sz = 0 then .error "fieldAddr size" else do
    let v ← st.val x
    match v with
    | .c (.h r) => match st.rk r with
      | .box e _ => .ok ⟨[], st.put d (.ad r e (.int .i64 0) off)⟩
      | _ => .error "fieldAddr root"
    | .ad r e i k => .ok ⟨[], st.put d (.ad r e i (k + off))⟩
    | .ra rg cells => .ok ⟨[], st.put d (.ra rg (cells.drop off))⟩
    | .c (.rp rg cells) => .ok ⟨[], st.put d (.ra rg (cells.drop off))⟩
    | v => .error "fieldAddr"
def stepField (P : Program) (st : St) (d : Nat) (t : TypeId) (x : Operand) (fi : Nat) : M Step := match fldOf P t fi with
  | none => .error "field"
  | some (off, sz) => do
    let v ← st.val x
    match v with
    | .agg cells => match P.underlying t with
      | some (.struct fs) => match fs[fi]? with
        | some f =>
          do
          let u ← loadCells' P f.type (cells.drop off)
          .ok ⟨[], st.put d u⟩
        | none => .error "field"
      | _ => .error "field"
    | _ => .error "field no struct"
def regOf : SC → Rg
  | .s rg _ => rg
  | .hn r _ _ _ => some r
  | .hs r _ _ _ => some r
  | _ => none
def stepIndexAddr (P : Program) (st : St) (d : Nat) (t : TypeId) (x i : Operand) : M Step := do
  let (k, i) ← st.intOf i
  if k ≠ .i64 then .error "indexAddr kind" else
  let vx ← st.val x
  match vx with
  | .c (.h r) => match st.rk r with
    | .list e a v _ _ => if elemOf P t = some e ∧ a.n = szOf P e ∧ 0 < a.n ∧ v.ty st.ts = some (.sl e a) then .ok ⟨[(.idx v i, .unit)], (st.bind .unit).put d (.ad r e i 0)⟩ else .error "indexAddr type"
    | .listH e a v _ _ _ => if elemOf P t = some e ∧ a.n = szOf P e ∧ 0 < a.n ∧ v.ty st.ts = some (.sl e a) then .ok ⟨[(.idx v i, .unit)], (st.bind .unit).put d (.ad r e i 0)⟩ else .error "indexAddr type"
    | _ => .error "indexAddr root"
  | .c c => do
    let v ← st.listVal c
    let tv ← st.ty v
    match tv with
    | .sl _ a => match elemOf P t with
      | some e =>
        if ¬ (a.n = szOf P e ∧ 0 < a.n) then .error "indexAddr size" else
        .ok ⟨[(.get v i, a)], (st.bind a).put d (.ra (regOf c) (cellsOf (regOf c) st.nx [] a))⟩
      | none => .error "indexAddr no slice"
    | _ => .error "indexAddr type"
  | _ => .error "indexAddr"
def stepSlice (P : Program) (st : St) (d : Nat) (t : TypeId) (x : Operand) (lo hi : Option Operand) : M Step := do
  let lo ← optAtom st lo
  let hi ← optAtom st hi
  let vx ← st.val x
  match vx with
  | .c c => do
    let v ← st.listVal c
    let tv ← st.ty v
    match tv, elemOf P t with
    | .sl e' a, some e =>
      if ¬ (a.n = szOf P e ∧ 0 < a.n) then .error "slice size" else
      match c with
      | .s rg _ => .ok ⟨[(.slice v lo hi, .sl e' a)], (st.bind (.sl e' a)).put d (.c (.s rg st.ref))⟩
      | .h r => match st.rk r with
        | .list e2 a2 _ _ none => if a2.flat1 ∧ e2 = e' ∧ a2 = a then .ok ⟨[(.slice v lo hi, .sl e' a)], (st.bind (.sl e' a)).put d (.c (.hs r lo hi st.ref))⟩ else .error "slice own"
        | _ => .error "slice root"
      | .hn r _ _ _ => .ok ⟨[(.slice v lo hi, .sl e' a)], (st.bind (.sl e' a)).put d (.c (.s (some r) st.ref))⟩
      | _ => .error "slice of what"
    | _, _ => .error "slice type"
  | _ => .error "slice"
def stepLen (P : Program) (st : St) (d : Nat) (t : TypeId) (x : Operand) : M Step := match elemOf P t with
  | none => .error "len type"
  | some _ => do
    let v ← st.val x
    match v with
    | .c .nil => .ok ⟨[], st.put d (.c (.v (.int .i64 0)))⟩
    | .c y => do
      let v ← st.listVal y
      let tv ← st.ty v
      match tv with
      | .sl _ _ => .ok (step1 st d (.len v) (.int .i64) (.c ∘ .v))
      | _ => .error "len of what"
    | _ => .error "len"
def stepMinMax (mn : Bool) (st : St) (d : Nat) (x y : Operand) : M Step := do
  let (k, x) ← st.intOf x
  let (k', y) ← st.intOf y
  if k = k' ∧ k = .i64 then .ok (step1 st d (if mn then .min k x y else .max k x y) (.int k) (.c ∘ .v)) else .error "min max"
/-- x = append(x[:i], x[j:]..) -/
def stepAppendHole (P : Program) (st : St) (d : Nat) (t : TypeId) (r : Nat) (lo : Option At) (v1 : At) (r2 : Nat) (hi2 : Option At) (v2 : At) : M Step := match elemOf P t with
  | none => .error "append type"
  | some e => match tyId P 8 e with
    | none => .error "append element type"
    | some a => match st.rk r with
      | .list e' a' _ _ none =>
        if ¬ (Nat.beq r r2 ∧ e = e' ∧ a = a' ∧ a.flat ∧ lo = none ∧ hi2 = none ∧ !st.fix.contains r) then .error "append hole" else
        .ok ⟨[(.app (bytesOf P e) v1 v2, .sl e a)], ((((st.bind (.sl e a)).kill true r).setR r (.list e a (.r ⟨st.nx, []⟩) false none)).put d (.c (.h r)))⟩
      | _ => .error "append root"
def stepApp (P : Program) (st : St) (d : Nat) (t : TypeId) (x y : Operand) : M Step := do
  let vx ← st.val x
  let vy ← st.val y
  stepAppend P st d t vx vy
def stepOp (P : Program) (ss : List Sig) (st : St) (o : Oper) : M Step :=
  match o.op, o.dst with
  | .move x, some d => stepMove st d x
  | .assign x, some d => stepAssign st d x
  | .pick c x y, some d => stepPick st d c x y
  | .binOp op t x y _, some d => stepBin P st d op t x y
  | .unOp .not _ x, some d => stepNot st d x
  | .unOp .neg _ x, some d => stepNeg st d x
  | .convert s t x, some d => stepConv P st d s t x
  | .nilCheck x, some d => stepNilCheck st d x
  | .extract x i, some d => stepExtract st d x i
  | .alloc e, some d => stepAlloc P st d e
  | .box e x, some d => stepBox P st d e x
  | .build t ps, some d => stepBuild P st d t ps.toList
  | .buildSlice t n ps, some d => stepBuildSlice P st d t n ps.toList
  | .makeSlice t x y, some d => stepMake P st d t x y
  | .makeFunc (.func f) first caps, some d => stepMakeFunc st d f first caps
  | .makeMap _ none, some d => .ok ⟨[], (st.push (.mp (.nil .mp))).put d (.c (.h st.nr))⟩
  | .load t x, some d => stepLoad P st d t x
  | .store t x y, none => stepStore P st t x y
  | .fieldAddr t x fi, some d => stepFieldAddr P st d t x fi
  | .field t x fi, some d => stepField P st d t x fi
  | .indexAddr t x i, some d => stepIndexAddr P st d t x i
  | .slice t x lo hi none, some d => stepSlice P st d t x lo hi
  | .call c, some d => match c.callee, c.args.toList, c.argTypes.toList with
    | .builtin .len, [x], [t] => stepLen P st d t x
    | .builtin .min, [x, y], _ => stepMinMax true st d x y
    | .builtin .max, [x, y], _ => stepMinMax false st d x y
    | .builtin .append, [x, y], [t, t'] => if t = t' then stepApp P st d t x y else .error "append types"
    | .value x, os, _ => do
      let v ← st.val x
      match v with
      | .c (.fn f caps) => stepCall st ss d f os caps
      | _ => .error "call of what"
    | _, _, _ => .error "call callee"
  | _, _ => .error "operation"
end Go.Pu
